/-
  The telling of layer 25, as the program does it and as the reference does, and the plain laws. No program is named here.
-/
import Derived.Test.YtddiabaagpmkgaaDoorCoB
namespace Go.Px.Co
open E7 (At nx ItF Kids leaf count encB atomB right Wf)
def most : Lim := ⟨32, 4096, 262144, 4096⟩
theorem most_may : most.may = true := by decide
def octets (s : Bytes) : Atom := ⟨2, 0, s⟩
/-- The list that is told. -/
def listOf (x : Env) (m : List Atom) : List Atom :=
  if x.fmt = 6 then ⟨6, 17, []⟩ :: ⟨4, 4, []⟩ :: octets x.header :: (m ++ [octets x.cipher, octets x.tag])
  else ⟨6, 16, []⟩ :: ⟨4, 3, []⟩ :: octets x.header :: (m ++ [octets (x.cipher ++ x.tag)])
/-- What the program tells. -/
def tellP (x : Env) : Bytes × Int :=
  let d := R7.decode x.loose most
  if d.2.2 ≠ 0 ∨ (d.1.getD 0 za).kind ≠ 5 then ([], 2)
  else
    let e := E7.encode (listOf x d.1)
    if e.2 ≠ 0 then ([], 2)
    else if (read e.1 most).2 ≠ 0 ∨ x ≠ (read e.1 most).1 then ([], 2)
    else (e.1, 0)
def bytesI (s : Bytes) : Bytes := R7.headB 2 s.length ++ s
def bytesOf (x : Env) : Bytes :=
  if x.fmt = 6 then [209, 132] ++ bytesI x.header ++ x.loose ++ bytesI x.cipher ++ bytesI x.tag
  else [208, 131] ++ bytesI x.header ++ x.loose ++ bytesI (x.cipher ++ x.tag)
/-- What the reference tells. -/
def tellR (x : Env) : Bytes × Int :=
  if 300000 < x.header.length ∨ 300000 < x.loose.length ∨ 70000 < x.cipher.length ∨ 64 < x.tag.length then ([], 2)
  else if (read (bytesOf x) most).2 ≠ 0 ∨ x ≠ (read (bytesOf x) most).1 then ([], 2)
  else (bytesOf x, 0)
/-! What a list is that is read -/
/-- The parts of an envelope's list. -/
structure Parts (L : List Atom) (mac : Bool) (X : List Atom) : Prop where
  it : ∃ d, d ≤ 32 ∧ ItF d X false
  eq : L = L.getD 0 za :: L.getD 1 za :: L.getD 2 za :: (X ++ (if mac then [L.getD (nx L 3) za, L.getD (nx L 3 + 1) za] else [L.getD (nx L 3) za]))
  nx : nx L 3 = 3 + X.length
theorem kids1 {d : Nat} {mp : Bool} {k : Nat} {l : Bytes} {r : List Atom} (h : Kids (ItF d) mp 1 k l r false) : ItF d r false := by
  obtain ⟨x, y, o1, o2, rfl, h1, ⟨rfl, rfl⟩, e⟩ := h
  obtain ⟨rfl, _⟩ := or_false3 e
  rw [List.append_nil]
  exact h1
theorem kids_cons {d : Nat} {mp : Bool} {m k : Nat} {l : Bytes} {r : List Atom} (h : Kids (ItF d) mp (m + 1) k l r false) : ∃ x y l', r = x ++ y ∧ ItF d x false ∧ Kids (ItF d) mp m (k + 1) l' y false := by
  obtain ⟨x, y, o1, o2, rfl, h1, h2, e⟩ := h
  obtain ⟨rfl, rfl⟩ := or_false3 e
  exact ⟨x, y, _, rfl, h1, h2⟩
theorem it_leaf {d : Nat} {a : Atom} {r : List Atom} (h : ItF d (a :: r) false) (ha : leaf a = true) : r = [] := by
  cases d with
  | zero =>
    obtain ⟨b, e, _⟩ := h
    simp only [List.cons.injEq] at e
    exact e.2
  | succ d =>
    rcases h with ⟨b, e, _⟩ | ⟨b, r', e, _, h3, _⟩
    · simp only [List.cons.injEq] at e
      exact e.2
    · simp only [List.cons.injEq] at e
      rw [← e.1, ha] at h3
      cases h3
theorem it_node {d : Nat} {a : Atom} {r : List Atom} (h : ItF d (a :: r) false) (ha : leaf a = false) : ∃ d', d = d' + 1 ∧ Kids (ItF d') (a.kind == 5) (count a) 0 [] r false := by
  cases d with
  | zero =>
    obtain ⟨b, e, _, h3, _⟩ := h
    simp only [List.cons.injEq] at e
    rw [← e.1, ha] at h3
    cases h3
  | succ d =>
    rcases h with ⟨b, e, _, h3, _⟩ | ⟨b, r', e, _, h3, hk⟩
    · simp only [List.cons.injEq] at e
      rw [← e.1, ha] at h3
      cases h3
    · simp only [List.cons.injEq] at e
      obtain ⟨rfl, rfl⟩ := e
      exact ⟨d, rfl, hk⟩
theorem it_cons {d : Nat} {l : List Atom} (h : ItF d l false) : ∃ a r, l = a :: r := by
  cases d with
  | zero => obtain ⟨a, rfl, _⟩ := h; exact ⟨a, [], rfl⟩
  | succ d =>
    rcases h with ⟨a, rfl, _⟩ | ⟨a, r, rfl, _⟩
    · exact ⟨a, [], rfl⟩
    · exact ⟨a, r, rfl⟩
theorem parts {d : Nat} {L : List Atom} {mac : Bool} (hd : d ≤ 32) (h : ItF d L false) (hl : L.length ≤ 4096) (h0 : (L.getD 0 za).kind = 6) (h1 : (L.getD 1 za).kind = 4) (hn : (L.getD 1 za).num = if mac then 4 else 3) (h2 : (L.getD 2 za).kind = 2)
    (h3 : (L.getD (nx L 3) za).kind = 2) (h4 : mac = true → (L.getD (nx L 3 + 1) za).kind = 2) : ∃ X, Parts L mac X := by
  obtain ⟨a, r, rfl⟩ := it_cons h
  obtain ⟨d1, rfl, hk⟩ := it_node h (leaf6 h0)
  rw [show count a = 1 from count6 h0] at hk
  have hr := kids1 hk
  obtain ⟨b, r2, rfl⟩ := it_cons hr
  obtain ⟨d2, rfl, hk2⟩ := it_node hr (leaf4 h1)
  rw [show count b = (if mac then 4 else 3) from (count4 h1).trans hn] at hk2
  have key : ∀ n, Kids (ItF d2) (b.kind == 5) (n + 3) 0 [] r2 false → ∃ c X t y l, r2 = c :: (X ++ (t :: y)) ∧ ItF d2 X false ∧ Kids (ItF d2) (b.kind == 5) n 3 l y false ∧ nx (a :: b :: r2) 3 = 3 + X.length := by
    intro n hk
    obtain ⟨x1, y1, l1, rfl, i1, k1⟩ := kids_cons hk
    obtain ⟨X, y2, l2, rfl, i2, k2⟩ := kids_cons k1
    obtain ⟨x3, y, l3, rfl, i3, k3⟩ := kids_cons k2
    obtain ⟨c, rc, rfl⟩ := it_cons i1
    have : rc = [] := it_leaf i1 (leaf2 h2)
    subst this
    have hnx : nx (a :: b :: ([c] ++ (X ++ (x3 ++ y)))) 3 = 3 + X.length := At.nx ⟨⟨d2, X, x3 ++ y, by omega, i2, rfl, rfl⟩⟩ hl
    obtain ⟨t, rt, rfl⟩ := it_cons i3
    have ht : (a :: b :: ([c] ++ (X ++ (t :: rt ++ y)))).getD (nx (a :: b :: ([c] ++ (X ++ (t :: rt ++ y)))) 3) za = t := by
      rw [hnx]
      refine getD_head (r := rt ++ y) ?_
      rw [show 3 + X.length = X.length + 1 + 1 + 1 by omega]
      simp
    have : rt = [] := it_leaf i3 (leaf2 (by rw [← ht]; exact h3))
    subst this
    exact ⟨c, X, t, y, _, rfl, i2, k3, hnx⟩
  cases mac with
  | false =>
    obtain ⟨c, X, t, y, l, rfl, i2, ⟨rfl, _⟩, hnx⟩ := key 0 hk2
    refine ⟨X, ⟨d2, by omega, i2⟩, ?_, hnx⟩
    rw [hnx]
    have ht : (a :: b :: c :: (X ++ [t])).getD (3 + X.length) za = t := getD_head (r := []) (by rw [show 3 + X.length = X.length + 1 + 1 + 1 by omega]; simp)
    rw [ht]
    rfl
  | true =>
    obtain ⟨c, X, t, y, l, rfl, i2, hk3, hnx⟩ := key 1 hk2
    have iy := kids1 hk3
    obtain ⟨u, ru, rfl⟩ := it_cons iy
    have hu : (a :: b :: c :: (X ++ t :: u :: ru)).getD (nx (a :: b :: c :: (X ++ t :: u :: ru)) 3 + 1) za = u := by
      rw [hnx]
      refine getD_head (r := ru) ?_
      rw [show 3 + X.length + 1 = X.length + 1 + 1 + 1 + 1 by omega]
      simp [List.drop_append]
    have : ru = [] := it_leaf iy (leaf2 (by rw [← hu]; exact h4 rfl))
    subst this
    refine ⟨X, ⟨d2, by omega, i2⟩, ?_, hnx⟩
    rw [hu, hnx]
    have ht : (a :: b :: c :: (X ++ [t, u])).getD (3 + X.length) za = t := getD_head (r := [u]) (by rw [show 3 + X.length = X.length + 1 + 1 + 1 by omega]; simp)
    rw [ht]
    rfl
/-! What is read -/
structure ReadOk (L : List Atom) (lim : Lim) (x : Env) (mac : Bool) (a : Hdr) : Prop where
  k0 : (L.getD 0 za).kind = 6
  n0 : (L.getD 0 za).num = if mac then 17 else 16
  k1 : (L.getD 1 za).kind = 4
  n1 : (L.getD 1 za).num = if mac then 4 else 3
  k2 : (L.getD 2 za).kind = 2
  pr : protect (L.getD 2 za).text lim = (a, 0)
  rb : readB mac L a = (x, 0)
theorem zero_err {x : Env} {e : Int} {P : Prop} (h : (zero, e) = (x, 0)) (he : e ≠ 0) : P := absurd (congrArg Prod.snd h) he
theorem readL_ok {L : List Atom} {lim : Lim} {x : Env} (h : readL L lim = (x, 0)) : ∃ mac a, ReadOk L lim x mac a := by
  unfold readL at h
  by_cases c0 : (L.getD 0 za).kind ≠ 6
  · rw [if_pos c0] at h
    exact zero_err h (by decide)
  rw [if_neg c0] at h
  by_cases c1 : (L.getD 0 za).num ≠ 16 ∧ (L.getD 0 za).num ≠ 17
  · rw [if_pos c1] at h
    exact zero_err h (by decide)
  rw [if_neg c1] at h
  simp only at h
  obtain ⟨mac, hm⟩ : ∃ mac, ((L.getD 0 za).num == 17) = mac := ⟨_, rfl⟩
  rw [hm] at h
  by_cases c2 : (L.getD 1 za).kind ≠ 4 ∨ (L.getD 1 za).num ≠ if mac = true then 4 else 3
  · rw [if_pos c2] at h
    exact zero_err h (by decide)
  rw [if_neg c2] at h
  by_cases c3 : (L.getD 2 za).kind ≠ 2
  · rw [if_pos c3] at h
    exact zero_err h (by decide)
  rw [if_neg c3] at h
  by_cases c4 : (protect (L.getD 2 za).text lim).2 ≠ 0
  · rw [if_pos c4] at h
    exact zero_err h c4
  rw [if_neg c4] at h
  have k1 : (L.getD 1 za).kind = 4 := Classical.byContradiction fun e => c2 (.inl e)
  have n1 := Classical.byContradiction fun e => c2 (.inr e)
  refine ⟨mac, _, ⟨Classical.byContradiction c0, ?_, k1, n1, Classical.byContradiction c3, Prod.ext rfl (Classical.byContradiction c4), h⟩⟩
  cases mac with
  | true => rw [if_pos rfl]; simpa using hm
  | false =>
    rw [if_neg (by decide)]
    have : ¬ (L.getD 0 za).num = 17 := by simpa using hm
    omega
theorem readL_of {L : List Atom} {lim : Lim} {x : Env} {mac : Bool} {a : Hdr} (h : ReadOk L lim x mac a) : readL L lim = (x, 0) := by
  have hm : ((L.getD 0 za).num == 17) = mac := by rw [h.n0]; cases mac <;> rfl
  unfold readL
  rw [if_neg (fun e => e h.k0), if_neg (by rw [h.n0]; cases mac <;> decide)]
  simp only [hm]
  rw [if_neg (by rintro (e | e); exact e h.k1; exact e h.n1), if_neg (fun e => e h.k2), h.pr, if_neg (fun e => e rfl)]
  exact h.rb
structure ReadB (L : List Atom) (x : Env) (mac : Bool) (a : Hdr) : Prop where
  k3 : (L.getD 3 za).kind = 5
  kt : (L.getD (nx L 3) za).kind = 2
  ku : mac = true → (L.getD (nx L 3 + 1) za).kind = 2
  last : last mac (L.getD 2 za).text (part L 3) (L.getD (nx L 3) za).text (if mac then (L.getD (nx L 3 + 1) za).text else []) (a ++ pairsF L (L.getD 3 za).num 4) = (x, 0)
theorem readB_ok {L : List Atom} {x : Env} {mac : Bool} {a : Hdr} (h : readB mac L a = (x, 0)) : ReadB L x mac a := by
  unfold readB at h
  split at h
  · exact zero_err h (by decide)
  rename_i c0
  simp only at h
  split at h
  · exact zero_err h (by decide)
  split at h
  · exact zero_err h (by decide)
  rename_i c2
  split at h
  · exact zero_err h (by decide)
  rename_i c3
  split at h
  · rename_i c4
    exact zero_err h c4
  exact ⟨Classical.byContradiction c0, Classical.byContradiction c2, fun hm => Classical.byContradiction fun e => c3 ⟨hm, e⟩, h⟩
theorem row_tag {mac : Bool} {n : Nat} {r : Row} (h : row mac n = some r) : r.tag ≤ 64 := by
  unfold row at h
  split at h
  · cases h
  · split at h
    · cases h
    · rename_i r' hr
      split at h
      · cases h
      · split at h
        · cases h
          have hm := List.mem_of_find?_eq_some hr
          have : ∀ r ∈ table, r.tag ≤ 64 := by decide
          exact this _ hm
        · cases h
structure LastOk (mac : Bool) (header loose cipher tag : Bytes) (x : Env) : Prop where
  fmt : x.fmt = fmtOf mac
  header : x.header = header
  loose : x.loose = loose
  aad : x.aad = []
  both : mac = true → x.cipher = cipher ∧ x.tag = tag
  one : mac = false → x.cipher ++ x.tag = cipher
  small : x.cipher.length ≤ 70000 ∧ x.tag.length ≤ 64
theorem last_ok {mac : Bool} {header loose cipher tag : Bytes} {h : Hdr} {x : Env} (hx : last mac header loose cipher tag h = (x, 0)) : LastOk mac header loose cipher tag x := by
  unfold last at hx
  split at hx
  · exact zero_err hx (by decide)
  split at hx
  · exact zero_err hx (by decide)
  split at hx
  · exact zero_err hx (by decide)
  rename_i r hr
  have ht := row_tag hr
  by_cases c0 : badName (find h 4) = true
  · rw [if_pos c0] at hx
    exact zero_err hx (by decide)
  rw [if_neg c0] at hx
  cases mac with
  | true =>
    rw [if_pos rfl] at hx
    by_cases c1 : tag.length ≠ r.tag
    · rw [if_pos c1] at hx
      exact zero_err hx (by decide)
    rw [if_neg c1] at hx
    by_cases c2 : 70000 < cipher.length
    · rw [if_pos c2] at hx
      exact zero_err hx (by decide)
    rw [if_neg c2] at hx
    obtain ⟨rfl, _⟩ := Prod.mk.inj hx
    exact ⟨rfl, rfl, rfl, rfl, fun _ => ⟨rfl, rfl⟩, fun e => (by cases e), by show cipher.length ≤ 70000 ∧ tag.length ≤ 64; omega⟩
  | false =>
    rw [if_neg (by decide)] at hx
    split at hx
    · exact zero_err hx (by decide)
    rename_i v _
    by_cases c1 : v.kind ≠ 2 ∨ v.text.length ≠ r.iv ∨ cipher.length < r.tag
    · rw [if_pos c1] at hx
      exact zero_err hx (by decide)
    rw [if_neg c1] at hx
    by_cases c2 : 70000 < cipher.length - r.tag ∨ (65536 ≤ cipher.length - r.tag ∧ r.iv = 13)
    · rw [if_pos c2] at hx
      exact zero_err hx (by decide)
    rw [if_neg c2] at hx
    obtain ⟨rfl, _⟩ := Prod.mk.inj hx
    refine ⟨rfl, rfl, rfl, rfl, fun e => (by cases e), fun _ => List.take_append_drop _ _, ?_⟩
    show (cipher.take _).length ≤ 70000 ∧ (cipher.drop _).length ≤ 64
    rw [List.length_take, List.length_drop]
    omega
theorem read_ok {s : Bytes} {lim : Lim} {x : Env} (h : read s lim = (x, 0)) : (R7.decode s lim).2.2 = 0 ∧ ∃ mac a, ReadOk (R7.decode s lim).1 lim x mac a := by
  unfold read at h
  split at h
  · rename_i c
    exact zero_err h c
  · rename_i c
    exact ⟨Classical.byContradiction c, readL_ok h⟩
theorem may_most {lim : Lim} (h : lim.may = true) : lim.d ≤ most.d ∧ lim.i ≤ most.i ∧ lim.b ≤ most.b := by
  have := Cf.may_of h
  show lim.d ≤ 32 ∧ lim.i ≤ 4096 ∧ lim.b ≤ 262144
  omega
theorem protect_more {s : Bytes} {lim : Lim} {a : Hdr} (hm : lim.may = true) (h : protect s lim = (a, 0)) : protect s most = (a, 0) := by
  obtain ⟨m1, m2, m3⟩ := may_most hm
  unfold protect at h ⊢
  by_cases hs : s = []
  · rw [if_pos hs] at h ⊢
    exact h
  · rw [if_neg hs] at h ⊢
    simp only at h ⊢
    by_cases he : (R7.decode s lim).2.2 = 0
    · rw [if_neg (fun e => e he)] at h
      rw [E7.decode_more he most_may m1 m2 m3, if_neg (fun e => e rfl)]
      exact h
    · rw [if_pos he] at h
      exact absurd (congrArg Prod.snd h) he
/-- What is read within some limits is read alike within the greatest. -/
theorem read_more {s : Bytes} {lim : Lim} {x : Env} (h : read s lim = (x, 0)) : read s most = (x, 0) := by
  obtain ⟨hd, mac, a, hr⟩ := read_ok h
  obtain ⟨hm, _⟩ := E7.decode_sound hd
  obtain ⟨m1, m2, m3⟩ := may_most hm
  have hde := E7.decode_more hd most_may m1 m2 m3
  unfold read
  rw [hde, if_neg (fun e => e rfl)]
  exact readL_of ⟨hr.k0, hr.n0, hr.k1, hr.n1, hr.k2, protect_more hm hr.pr, hr.rb⟩
theorem text_nil {a : Atom} (h : right a = true) (hk : a.kind ≠ 2 ∧ a.kind ≠ 3) : a.text = [] := by
  obtain ⟨k, e, _, hw⟩ := E7.right_cases h
  rcases hw with ⟨rfl, _⟩ | ⟨rfl, _⟩ | ⟨_, _, ht, _⟩
  · exact absurd e hk.1
  · exact absurd e hk.2
  · exact ht
theorem num_zero {a : Atom} (h : right a = true) (hk : a.kind = 2) : a.num = 0 := by
  obtain ⟨k, e, _, hw⟩ := E7.right_cases h
  rcases hw with ⟨_, hn⟩ | ⟨_, hn, _⟩ | ⟨h2, _⟩
  · exact hn
  · exact hn
  · exact absurd (by omega) h2
theorem atom_octets {a : Atom} (h : right a = true) (hk : a.kind = 2) : a = octets a.text := by
  obtain ⟨k, n, t⟩ := a
  have hn := num_zero h hk
  simp only at hk hn
  subst hk hn
  rfl
theorem atom_plain {a : Atom} {k : Int} {n : Nat} (h : right a = true) (hk : a.kind = k) (hk2 : k ≠ 2 ∧ k ≠ 3) (hn : a.num = n) : a = ⟨k, n, []⟩ := by
  obtain ⟨k', n', t⟩ := a
  simp only at hk hn
  subst hk hn
  have := text_nil h hk2
  simp only at this
  rw [this]
theorem getD_mem {L : List Atom} {i : Nat} (h : i < L.length) : L.getD i za ∈ L := by
  rw [List.getD_eq_getElem?_getD, List.getElem?_eq_getElem h]
  exact List.getElem_mem _
theorem octetsB (s : Bytes) : atomB (octets s) = bytesI s := rfl
/-- What is read is told so. -/
theorem tell_of_read {s : Bytes} {x : Env} (h : read s most = (x, 0)) : tellP x = (s, 0) ∧ tellR x = (s, 0) := by
  obtain ⟨hd, mac, a, hr⟩ := read_ok h
  have henc := E7.encode_decode hd
  obtain ⟨_, _, hit, hwf, hbs, hlen, hsl, _⟩ := E7.decode_sound hd
  obtain ⟨L, hL⟩ : ∃ L, L = (R7.decode s most).1 := ⟨_, rfl⟩
  rw [← hL] at hr henc hit hwf hbs hlen
  have hb := readB_ok hr.rb
  have hla := last_ok hb.last
  have hl4 : L.length ≤ 4096 := by have : most.i = 4096 := rfl; omega
  have hs4 : s.length ≤ 262144 := by have : most.b = 262144 := rfl; omega
  obtain ⟨X, hp⟩ := parts (mac := mac) (by decide) hit hl4 hr.k0 hr.k1 hr.n1 hr.k2 hb.kt hb.ku
  obtain ⟨dx, hdx, hX⟩ := hp.it
  have hal := ItF.all hit
  have hXL : ∀ b ∈ X, b ∈ L := fun b hb => by rw [hp.eq]; simp [hb]
  have hlx := congrArg List.length hp.eq
  simp only [List.length_cons, List.length_append] at hlx
  have hlx2 : (if mac = true then [L.getD (nx L 3) za, L.getD (nx L 3 + 1) za] else [L.getD (nx L 3) za]).length = if mac then 2 else 1 := by cases mac <;> rfl
  rw [hlx2] at hlx
  have hx1 := hX.pos
  have e0 := atom_plain (hal _ (getD_mem (i := 0) (by omega))) hr.k0 (by decide) hr.n0
  have e1 := atom_plain (hal _ (getD_mem (i := 1) (by omega))) hr.k1 (by decide) hr.n1
  have e2 := atom_octets (hal _ (getD_mem (i := 2) (by omega))) hr.k2
  have e3 := atom_octets (hal _ (getD_mem (i := nx L 3) (by rw [hp.nx]; split at hlx <;> omega))) hb.kt
  have hpart : part L 3 = encB X := by
    unfold part
    rw [hp.nx, show 3 + X.length - 3 = X.length by omega]
    congr 1
    have : L.drop 3 = X ++ (if mac = true then [L.getD (nx L 3) za, L.getD (nx L 3 + 1) za] else [L.getD (nx L 3) za]) := by
      conv => lhs; rw [hp.eq]
      rfl
    rw [this, List.take_left]
  have hlist : listOf x X = L := by
    conv => rhs; rw [hp.eq]
    unfold listOf
    rw [hla.fmt]
    cases mac with
    | false =>
      rw [if_neg (by decide), hla.header, hla.one rfl, ← e2, ← e3, e0, e1]
      rfl
    | true =>
      have e4 := atom_octets (hal _ (getD_mem (i := nx L 3 + 1) (by rw [hp.nx]; rw [if_pos rfl] at hlx; omega))) (hb.ku rfl)
      obtain ⟨b1, b2⟩ := hla.both rfl
      rw [if_pos rfl] at b2
      rw [if_pos (by decide), hla.header, b1, b2, ← e2, ← e3, ← e4, e0, e1]
      rfl
  have hbytes : bytesOf x = s := by
    have hB : encB (listOf x X) = s := by rw [hlist]; exact hbs.symm
    rw [← hB]
    unfold bytesOf listOf
    rw [hla.fmt, hla.loose, hpart]
    cases mac with
    | false =>
      rw [if_neg (by decide), if_neg (by decide)]
      simp only [E7.encB_cons, E7.encB_app, octetsB]
      show [208, 131] ++ _ ++ _ ++ _ = [208] ++ ([131] ++ (_ ++ (_ ++ (_ ++ []))))
      simp [List.append_assoc]
    | true =>
      rw [if_pos (by decide), if_pos (by decide)]
      simp only [E7.encB_cons, E7.encB_app, octetsB]
      show [209, 132] ++ _ ++ _ ++ _ ++ _ = [209] ++ ([132] ++ (_ ++ (_ ++ (_ ++ (_ ++ [])))))
      simp [List.append_assoc]
  have hXs : (encB X).length ≤ s.length := by
    have hB : encB (listOf x X) = s := by rw [hlist]; exact hbs.symm
    rw [← hB]
    unfold listOf
    split <;> (simp only [E7.encB_cons, E7.encB_app, List.length_append]; omega)
  have hdX : R7.decode x.loose most = (X, 0, 0) := by
    rw [hla.loose, hpart]
    exact E7.decode_of_it (o := false) (lim := most) most_may (hX.mono hdx) (fun b hb => hwf b (hXL b hb)) (by show (X.length : Int) ≤ 4096; omega) (by show ((encB X).length : Int) ≤ 262144; omega)
  have hX0 : (X.getD 0 za).kind = 5 := by
    have : L.getD 3 za = X.getD 0 za := by
      obtain ⟨c, rc, rfl⟩ := it_cons hX
      refine getD_head (r := rc ++ (if mac = true then [L.getD (nx L 3) za, L.getD (nx L 3 + 1) za] else [L.getD (nx L 3) za])) ?_
      conv => lhs; rw [hp.eq]
      rfl
    rw [← this]
    exact hb.k3
  constructor
  · unfold tellP
    simp only [hdX]
    rw [if_neg (by rintro (e | e); exact e rfl; exact e hX0), hlist, henc, if_neg (fun e => e rfl), h, if_neg (by rintro (e | e); exact e rfl; exact e rfl)]
  · have hhl : x.header.length ≤ 300000 ∧ x.loose.length ≤ 300000 := by
      rw [hla.loose, hpart]
      refine ⟨?_, by omega⟩
      have hB : encB (listOf x X) = s := by rw [hlist]; exact hbs.symm
      have h1 : (atomB (octets x.header)).length ≤ s.length := by
        rw [← hB]
        unfold listOf
        split <;> (simp only [E7.encB_cons, E7.encB_app, List.length_append]; omega)
      rw [octetsB] at h1
      unfold bytesI at h1
      rw [List.length_append] at h1
      omega
    obtain ⟨c1, c2⟩ := hla.small
    unfold tellR
    rw [if_neg (by omega), hbytes, h, if_neg (by rintro (e | e); exact e rfl; exact e rfl)]
/-- Both tell alike. -/
theorem tell_eq (x : Env) : tellP x = tellR x := by
  have hP : tellP x = ([], 2) ∨ ∃ s, read s most = (x, 0) := by
    unfold tellP
    simp only
    split
    · exact .inl rfl
    · split
      · exact .inl rfl
      · split
        · exact .inl rfl
        · rename_i c
          refine .inr ⟨_, Prod.ext (Classical.byContradiction fun e => c (.inr fun e2 => e e2.symm)) (Classical.byContradiction fun e => c (.inl e))⟩
  have hR : tellR x = ([], 2) ∨ ∃ s, read s most = (x, 0) := by
    unfold tellR
    split
    · exact .inl rfl
    · split
      · exact .inl rfl
      · rename_i c
        exact .inr ⟨_, Prod.ext (Classical.byContradiction fun e => c (.inr fun e2 => e e2.symm)) (Classical.byContradiction fun e => c (.inl e))⟩
  rcases hP with hP | ⟨s, hs⟩
  · rcases hR with hR | ⟨s, hs⟩
    · rw [hP, hR]
    · obtain ⟨a, b⟩ := tell_of_read hs
      rw [a, b]
  · obtain ⟨a, b⟩ := tell_of_read hs
    rw [a, b]
/-- What is told is read to what it was. -/
theorem tell_back {x : Env} {s : Bytes} (h : tellP x = (s, 0)) : read s most = (x, 0) := by
  unfold tellP at h
  simp only at h
  split at h
  · exact nomatch (congrArg Prod.snd h)
  · split at h
    · exact nomatch (congrArg Prod.snd h)
    · split at h
      · exact nomatch (congrArg Prod.snd h)
      · rename_i c
        have hs := congrArg Prod.fst h
        simp only at hs
        rw [hs] at c
        exact Prod.ext (Classical.byContradiction fun e => c (.inr fun e2 => e e2.symm)) (Classical.byContradiction fun e => c (.inl e))
theorem tell_nil {x : Env} (h : (tellP x).2 ≠ 0) : (tellP x).1 = [] := by
  unfold tellP at h ⊢
  simp only at h ⊢
  split
  · rfl
  · rename_i c1
    rw [if_neg c1] at h
    split
    · rfl
    · rename_i c2
      rw [if_neg c2] at h
      split
      · rfl
      · rename_i c3
        rw [if_neg c3] at h
        exact absurd rfl h
/-- There is one way alone. -/
theorem one_way {s : Bytes} {lim : Lim} {x : Env} (h : read s lim = (x, 0)) : tellP x = (s, 0) := (tell_of_read (read_more h)).1
end Go.Px.Co
