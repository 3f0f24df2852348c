/-
  The parts of an envelope's list, as the list behind its two first items gives them (plain law of layer 25). No program is named here.
-/
import Derived.Test.YtddiabaagpmkgaaDoorCoD
namespace Go.Px.Co
open E7 (At nx Wf encB leaf)
theorem At.drop2 {L : List Atom} {p q : Nat} (h : At L (p + 2) q) : ∃ q', q = q' + 2 ∧ At (L.drop 2) p q' := by
  obtain ⟨d, x, r, h1, h2, h3, rfl⟩ := h.it
  refine ⟨p + x.length, by omega, ⟨d, x, r, h1, h2, ?_, rfl⟩⟩
  rw [List.drop_drop, Nat.add_comm 2 p]
  exact h3
theorem getD_drop (L : List Atom) (k p : Nat) : (L.drop k).getD p za = L.getD (p + k) za := by
  rw [List.getD_eq_getElem?_getD, List.getD_eq_getElem?_getD, List.getElem?_drop, Nat.add_comm k p]
theorem nx_drop2 {L : List Atom} {p q : Nat} (h : At L (p + 2) q) (hl : L.length ≤ 4096) : nx L (p + 2) = nx (L.drop 2) p + 2 := by
  obtain ⟨q', rfl, h'⟩ := At.drop2 h
  rw [h.nx hl, h'.nx (by rw [List.length_drop]; omega)]
theorem prs_drop2 {L : List Atom} : ∀ {m p : Nat}, Prs L m (p + 2) → Prs (L.drop 2) m p
  | 0, _, _ => trivial
  | m + 1, p, ⟨q, r, h1, h2, h3⟩ => by
    obtain ⟨q', rfl, h1'⟩ := At.drop2 h1
    obtain ⟨r', rfl, h2'⟩ := At.drop2 h2
    exact ⟨q', r', h1', h2', prs_drop2 h3⟩
theorem pairs_drop2 {L : List Atom} (hl : L.length ≤ 4096) : ∀ {m p : Nat}, Prs L m (p + 2) → pairsF L m (p + 2) = pairsF (L.drop 2) m p
  | 0, _, _ => rfl
  | m + 1, p, ⟨q, r, h1, h2, h3⟩ => by
    obtain ⟨q', rfl, h1'⟩ := At.drop2 h1
    obtain ⟨r', rfl, h2'⟩ := At.drop2 h2
    have hl2 : (L.drop 2).length ≤ 4096 := by rw [List.length_drop]; omega
    show (L.getD (p + 2) za, L.getD (nx L (p + 2)) za) :: pairsF L m (nx L (nx L (p + 2))) = ((L.drop 2).getD p za, (L.drop 2).getD (nx (L.drop 2) p) za) :: pairsF (L.drop 2) m (nx (L.drop 2) (nx (L.drop 2) p))
    rw [h1.nx hl, h2.nx hl, h1'.nx hl2, h2'.nx hl2, getD_drop, getD_drop, pairs_drop2 hl h3]
theorem pairsF_len (L : List Atom) : ∀ (m p : Nat), (pairsF L m p).length = m
  | 0, _ => rfl
  | m + 1, p => by
    show (pairsF L m _).length + 1 = _
    rw [pairsF_len L m]
theorem protect_len (s : Bytes) (lim : Lim) : (protect s lim).1.length ≤ 4096 := by
  unfold protect
  split
  · simp
  · simp only
    split
    · simp
    · rename_i he
      split
      · simp
      · rename_i hk
        obtain ⟨hm, _, hit, _, _, hlen, _⟩ := E7.decode_sound (Classical.byContradiction he)
        obtain ⟨m1, m2, m3⟩ := may_most hm
        have e1 : most.d = 32 := rfl
        have e2 : most.i = 4096 := rfl
        have hk5 : ((R7.decode s lim).1.getD 0 za).kind = 5 := Classical.byContradiction fun e => hk (.inl e)
        have := (map_prs (whole (d := lim.d.toNat) (by omega) hit) hk5).2
        rw [pairsF_len]
        omega
/-- What parts reads. -/
inductive Prt where
  | bad (e : Int)
  | ok (h : Hdr) (header loose cipher tag : Bytes)
def Prt.err : Prt → Int
  | .bad e => e
  | .ok _ _ _ _ _ => 0
def partsM (mac : Bool) (M : List Atom) (lim : Lim) : Prt :=
  if (M.getD 0 za).kind ≠ 2 then .bad 9
  else if (protect (M.getD 0 za).text lim).2 ≠ 0 then .bad (protect (M.getD 0 za).text lim).2
  else if (M.getD 1 za).kind ≠ 5 then .bad 9
  else
    let a := (protect (M.getD 0 za).text lim).1
    let b := pairsF M (M.getD 1 za).num 2
    let t := M.getD (nx M 1) za
    if t.kind = 7 ∧ t.num = 22 then .bad 11
    else if t.kind ≠ 2 then .bad 9
    else if mac = true ∧ (M.getD (nx M 1 + 1) za).kind ≠ 2 then .bad 9
    else if labels a b ≠ 0 then .bad (labels a b)
    else .ok (a ++ b) (M.getD 0 za).text (part M 1) t.text (if mac then (M.getD (nx M 1 + 1) za).text else [])
/-- The places of that list. -/
structure PlM (M : List Atom) (mac : Bool) : Prop where
  pos : 2 ≤ M.length
  len : M.length ≤ 4096
  wf : Wf M
  bytes : (encB M).length ≤ 262144
  txt : ∀ a ∈ M, a.num < 18446744073709551616 ∧ a.text.length ≤ 9223372036854775807
  rest : (M.getD 0 za).kind = 2 → ∃ q r, At M 1 q ∧ At M q r ∧ (mac = true → ∃ s, At M r s)
/-- What is read of the list of an envelope with the two first items right. -/
theorem readL_parts {L : List Atom} {lim : Lim} {mac : Bool} (hl : L.length ≤ 4096) (hw : Wf L) (hb : (encB L).length ≤ 262144) (hx : ∀ a ∈ L, a.num < 18446744073709551616 ∧ a.text.length ≤ 9223372036854775807) (h0 : At L 0 L.length) (k0 : (L.getD 0 za).kind = 6) (n0 : (L.getD 0 za).num = if mac then 17 else 16) (k1 : (L.getD 1 za).kind = 4) (n1 : (L.getD 1 za).num = if mac then 4 else 3) :
    PlM (L.drop 2) mac ∧ readL L lim = match partsM mac (L.drop 2) lim with
      | .bad e => (zero, e)
      | .ok h hd lo ci tg => last mac hd lo ci tg h := by
  have hm : ((L.getD 0 za).num == 17) = mac := by rw [n0]; cases mac <;> rfl
  obtain ⟨q1, hq1⟩ := second h0 k0
  have hrw := third hq1 k1 n1
  have hM : ∀ i, (L.drop 2).getD i za = L.getD (i + 2) za := fun i => getD_drop L 2 i
  have hsuf : L = L.take 2 ++ L.drop 2 := (List.take_append_drop 2 L).symm
  have hrest : (L.getD 2 za).kind = 2 → ∃ q r, At (L.drop 2) 1 q ∧ At (L.drop 2) q r ∧ (mac = true → ∃ s, At (L.drop 2) r s) ∧ At L 3 (q + 2) := fun h2 => by
    obtain ⟨_, q, r, h3, h4, h5⟩ := places hrw h2
    obtain ⟨q', rfl, h3'⟩ := At.drop2 (p := 1) h3
    obtain ⟨r', rfl, h4'⟩ := At.drop2 h4
    refine ⟨q', r', h3', h4', fun hmm => ?_, h3⟩
    obtain ⟨s, h6⟩ := h5 hmm
    obtain ⟨s', _, h6'⟩ := At.drop2 h6
    exact ⟨s', h6'⟩
  refine ⟨⟨?_, by rw [List.length_drop]; omega, fun a ha => hw a (List.mem_of_mem_drop ha), ?_, fun a ha => hx a (List.mem_of_mem_drop ha), fun h2 => ?_⟩, ?_⟩
  · have key : ∀ n, Rw L (n + 3) 2 → 2 ≤ (L.drop 2).length := by
      rintro n ⟨a, ha, b, hb, c, hc, _⟩
      have h1 := ha.lt
      have h2 := hb.lt
      have h3 := hc.lt
      rw [List.length_drop]
      omega
    cases mac with
    | true => exact key 1 hrw
    | false => exact key 0 hrw
  · have := congrArg (fun l => (encB l).length) hsuf
    simp only [E7.encB_app, List.length_append] at this
    omega
  · rw [hM] at h2
    obtain ⟨q, r, h3, h4, h5, _⟩ := hrest h2
    exact ⟨q, r, h3, h4, h5⟩
  · unfold readL
    rw [if_neg (fun e => e k0), if_neg (by rw [n0]; cases mac <;> decide)]
    simp only [hm]
    rw [if_neg (by rintro (e | e); exact e k1; exact e n1)]
    unfold partsM
    have hM0 : (L.drop 2).getD 0 za = L.getD 2 za := hM 0
    have hM1 : (L.drop 2).getD 1 za = L.getD 3 za := hM 1
    rw [hM0, hM1]
    by_cases h2 : (L.getD 2 za).kind = 2
    · have c2 : ¬ (L.getD 2 za).kind ≠ 2 := fun e => e h2
      rw [if_neg c2, if_neg c2]
      by_cases hp : (protect (L.getD 2 za).text lim).2 = 0
      · have cp : ¬ (protect (L.getD 2 za).text lim).2 ≠ 0 := fun e => e hp
        rw [if_neg cp, if_neg cp]
        obtain ⟨q, r, h3, h4, h5, h6⟩ := hrest h2
        have hn : nx L 3 = nx (L.drop 2) 1 + 2 := nx_drop2 (p := 1) h6 hl
        unfold readB
        by_cases h5k : (L.getD 3 za).kind = 5
        · have c5 : ¬ (L.getD 3 za).kind ≠ 5 := fun e => e h5k
          rw [if_neg c5, if_neg c5]
          have hpr := (map_prs h6 h5k).1
          have hpp := pairs_drop2 (p := 2) hl hpr
          have hpart : part L 3 = part (L.drop 2) 1 := by
            unfold part
            rw [hn, List.drop_drop, show nx (L.drop 2) 1 + 2 - 3 = nx (L.drop 2) 1 - 1 by omega]
          have hpp2 : pairsF L (L.getD 3 za).num 4 = pairsF (L.drop 2) (L.getD 3 za).num 2 := hpp
          simp only [hpp2, hpart, hn, hM]
          rw [show nx (L.drop 2) 1 + 1 + 2 = nx (L.drop 2) 1 + 2 + 1 by omega]
          split
          · rfl
          · split
            · rfl
            · split
              · rfl
              · split
                · rfl
                · rfl
        · have c5 : (L.getD 3 za).kind ≠ 5 := h5k
          rw [if_pos c5, if_pos c5]
      · rw [if_pos hp, if_pos hp]
    · rw [if_pos h2, if_pos h2]
end Go.Px.Co
