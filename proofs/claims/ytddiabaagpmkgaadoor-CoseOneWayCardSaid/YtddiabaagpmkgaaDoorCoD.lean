/-
  The headers and the structure of layer 25 (plain law). No program is named here.
-/
import Derived.Test.YtddiabaagpmkgaaDoorCoC
namespace Go.Px.Co
open E7 (ItF Kids encB atomB right Wf leaf count)
/-! Small maps -/
theorem kids_step {R : List Atom → Bool → Prop} {mp : Bool} {m i : Nat} {lst : Bytes} {x r : List Atom} (h1 : R x false) (h2 : (mp && i % 2 == 0 && decide (0 < i) && leB (encB x) lst) = false) (h3 : Kids R mp m (i + 1) (if mp && i % 2 == 0 then encB x else lst) r false) : Kids R mp (m + 1) i lst (x ++ r) false :=
  ⟨x, r, false, false, rfl, h1, h3, by rw [h2]; rfl⟩
theorem kids_end {R : List Atom → Bool → Prop} {mp : Bool} {i : Nat} {lst : Bytes} : Kids R mp 0 i lst [] false := ⟨rfl, rfl⟩
theorem it_uint (n : Nat) : ItF 0 [⟨0, n, []⟩] false := ⟨_, rfl, rfl, rfl, rfl⟩
theorem it_octets (s : Bytes) : ItF 0 [octets s] false := ⟨_, rfl, rfl, rfl, rfl⟩
theorem map_it {n : Nat} {r : List Atom} (h : Kids (ItF 0) true (2 * n) 0 [] r false) : ItF 32 (⟨5, n, []⟩ :: r) false :=
  E7.ItF.mono (d := 1) (by decide) (E7.ItF.node rfl rfl (by rw [show count ⟨5, n, []⟩ = 2 * n from rfl]; exact h))
def nameL (name : Bytes) : List Atom := if name = [] then [] else [⟨0, 4, []⟩, octets name]
def ivL (iv : Bytes) : List Atom := if iv = [] then [] else [⟨0, 5, []⟩, octets iv]
def cntOf (name iv : Bytes) : Nat := (if name = [] then 0 else 1) + (if iv = [] then 0 else 1)
def looseB (name iv : Bytes) : Bytes := (if name = [] then [] else [4] ++ bytesI name) ++ (if iv = [] then [] else [5] ++ bytesI iv)
theorem head_uint (n : Nat) : atomB ⟨0, n, []⟩ = R7.headB 0 n := List.append_nil _
theorem head_map (n : Nat) : atomB ⟨5, n, []⟩ = R7.headB 5 n := List.append_nil _
theorem loose_it (name iv : Bytes) : ItF 32 (⟨5, cntOf name iv, []⟩ :: (nameL name ++ ivL iv)) false ∧ encB (⟨5, cntOf name iv, []⟩ :: (nameL name ++ ivL iv)) = R7.headB 5 (cntOf name iv) ++ looseB name iv := by
  refine ⟨map_it ?_, ?_⟩
  · unfold cntOf nameL ivL
    by_cases h1 : name = []
    · by_cases h2 : iv = []
      · rw [if_pos h1, if_pos h2, if_pos h1, if_pos h2]
        exact kids_end
      · rw [if_pos h1, if_neg h2, if_pos h1, if_neg h2]
        exact kids_step (x := [_]) (it_uint 5) rfl (kids_step (x := [_]) (it_octets iv) rfl kids_end)
    · by_cases h2 : iv = []
      · rw [if_neg h1, if_pos h2, if_neg h1, if_pos h2]
        exact kids_step (x := [_]) (it_uint 4) rfl (kids_step (x := [_]) (it_octets name) rfl kids_end)
      · rw [if_neg h1, if_neg h2, if_neg h1, if_neg h2]
        exact kids_step (x := [_]) (it_uint 4) rfl (kids_step (x := [_]) (it_octets name) rfl (kids_step (x := [_]) (it_uint 5) rfl (kids_step (x := [_]) (it_octets iv) rfl kids_end)))
  · rw [E7.encB_cons, E7.encB_app, head_map]
    congr 1
    unfold looseB
    congr 1
    · unfold nameL
      split
      · rfl
      · rw [E7.encB_cons, E7.encB_cons, octetsB, head_uint]
        show [4] ++ (bytesI name ++ []) = _
        rw [List.append_nil]
    · unfold ivL
      split
      · rfl
      · rw [E7.encB_cons, E7.encB_cons, octetsB, head_uint]
        show [5] ++ (bytesI iv ++ []) = _
        rw [List.append_nil]
theorem headB_le (k n : Nat) (h : n < 18446744073709551616) : (R7.headB k n).length ≤ 9 := by
  rw [E7.headB_size]
  have h3 := (E7.infoOf_lt n h).2
  split
  · omega
  · have : R7.infoOf n = 0 ∨ R7.infoOf n = 1 ∨ R7.infoOf n = 2 ∨ R7.infoOf n = 3 := by omega
    rcases this with e | e | e | e <;> rw [e] <;> decide
theorem bytesI_le (s : Bytes) (h : s.length < 18446744073709551616) : (bytesI s).length ≤ s.length + 9 := by
  unfold bytesI
  have := headB_le 2 s.length h
  rw [List.length_append]
  omega
theorem loose_enc (name iv : Bytes) (h1 : name.length ≤ 128) (h2 : iv.length ≤ 16) : E7.encode (⟨5, cntOf name iv, []⟩ :: (nameL name ++ ivL iv)) = (R7.headB 5 (cntOf name iv) ++ looseB name iv, 0) := by
  obtain ⟨hit, hb⟩ := loose_it name iv
  have hn := bytesI_le name (by omega)
  have hi := bytesI_le iv (by omega)
  have hc : cntOf name iv ≤ 2 := by unfold cntOf; split <;> split <;> omega
  have hh := headB_le 5 (cntOf name iv) (by omega)
  have hlen : (encB (⟨5, cntOf name iv, []⟩ :: (nameL name ++ ivL iv))).length ≤ 262144 := by
    rw [hb]
    unfold looseB
    rw [List.length_append, List.length_append]
    split <;> split <;> simp only [List.length_append, List.length_cons, List.length_nil] <;> omega
  rw [E7.encode_of_it hit ?_ ?_ hlen, hb]
  · intro a ha
    rcases List.mem_cons.1 ha with rfl | ha
    · exact ⟨by show cntOf name iv < _; omega, by show (0 : Nat) < _; omega⟩
    · rcases List.mem_append.1 ha with ha | ha
      · unfold nameL at ha
        split at ha
        · cases ha
        · simp only [List.mem_cons, List.not_mem_nil, or_false] at ha
          rcases ha with rfl | rfl
          · exact ⟨by show 4 < _; omega, by show (0 : Nat) < _; omega⟩
          · exact ⟨by show (0 : Nat) < _; omega, by show name.length < _; omega⟩
      · unfold ivL at ha
        split at ha
        · cases ha
        · simp only [List.mem_cons, List.not_mem_nil, or_false] at ha
          rcases ha with rfl | rfl
          · exact ⟨by show 5 < _; omega, by show (0 : Nat) < _; omega⟩
          · exact ⟨by show (0 : Nat) < _; omega, by show iv.length < _; omega⟩
  · unfold nameL ivL
    split <;> split <;> simp
theorem prot_enc (n : Nat) (h : n ≤ 200) : E7.encode [⟨5, 1, []⟩, ⟨0, 1, []⟩, ⟨0, n, []⟩] = ([161, 1] ++ R7.headB 0 n, 0) := by
  have hit : ItF 32 [⟨5, 1, []⟩, ⟨0, 1, []⟩, ⟨0, n, []⟩] false := map_it (n := 1) (kids_step (x := [_]) (it_uint 1) rfl (kids_step (x := [_]) (it_uint n) rfl kids_end))
  have hb : encB [⟨5, 1, []⟩, ⟨0, 1, []⟩, ⟨0, n, []⟩] = [161, 1] ++ R7.headB 0 n := by
    rw [E7.encB_cons, E7.encB_cons, E7.encB_cons, head_uint, head_uint, head_map]
    show [161] ++ ([1] ++ (R7.headB 0 n ++ [])) = _
    simp
  have hh := headB_le 0 n (by omega)
  rw [E7.encode_of_it hit ?_ (by simp) (by rw [hb]; simp only [List.length_append, List.length_cons, List.length_nil]; omega), hb]
  intro a ha
  simp only [List.mem_cons, List.not_mem_nil, or_false] at ha
  rcases ha with rfl | rfl | rfl
  · exact ⟨by decide, by decide⟩
  · exact ⟨by decide, by decide⟩
  · exact ⟨by show n < _; omega, by show (0 : Nat) < _; omega⟩
/-- What both hand back as headers. -/
def heads (alg : Int) (name iv : Bytes) : Bytes × Bytes × Int :=
  match rowOf alg with
  | none => ([], [], 11)
  | some r =>
    if r.iv = 16 then ([], [], 11)
    else if 128 < name.length ∨ 16 < iv.length then ([], [], 2)
    else ([161, 1] ++ R7.headB 0 (if r.iv = 0 then alg - 100 else alg).toNat, R7.headB 5 (cntOf name iv) ++ looseB name iv, 0)
/-! The structure -/
def enc0 : Bytes := [69, 110, 99, 114, 121, 112, 116, 48]
def mac0 : Bytes := [77, 65, 67, 48]
def struct (x : Env) (aad : Bytes) : Bytes :=
  if x.fmt = 5 then [131, 104] ++ enc0 ++ bytesI x.header ++ bytesI aad
  else [132, 100] ++ mac0 ++ bytesI x.header ++ bytesI aad ++ bytesI x.cipher
theorem infoOf_mono {n m : Nat} (h : n ≤ m) : R7.infoOf n ≤ R7.infoOf m := by
  unfold R7.infoOf
  repeat' split
  all_goals omega
theorem size_mono {n m : Nat} (h : n ≤ m) : (R7.headB 2 n).length ≤ (R7.headB 2 m).length := by
  rw [E7.headB_size, E7.headB_size]
  have hi := infoOf_mono h
  have hp : 2 ^ R7.infoOf n ≤ 2 ^ R7.infoOf m := Nat.pow_le_pow_right (by decide) hi
  have h1 : 1 ≤ 2 ^ R7.infoOf m := Nat.one_le_two_pow
  split <;> split <;> omega
theorem bytesI_inj {a b : Bytes} (h : bytesI a = bytesI b) : a = b := by
  have hl := congrArg List.length h
  unfold bytesI at h hl
  rw [List.length_append, List.length_append] at hl
  have hn : a.length = b.length := by
    rcases Nat.lt_trichotomy a.length b.length with h1 | h1 | h1
    · have := size_mono (Nat.le_of_lt h1); omega
    · exact h1
    · have := size_mono (Nat.le_of_lt h1); omega
  rw [hn] at h
  exact List.append_cancel_left h
/-- Unlike things beside have unlike structures. -/
theorem struct_inj {x : Env} {a b : Bytes} (h : struct x a = struct x b) : a = b := by
  unfold struct at h
  split at h
  · exact bytesI_inj (List.append_cancel_left h)
  · exact bytesI_inj (List.append_cancel_left (List.append_cancel_right h))
theorem one_enc {a : Atom} (h1 : right a = true) (h2 : leaf a = true) (hn : a.num < 18446744073709551616) (hl : a.text.length ≤ 1000) : E7.encode [a] = (atomB a, 0) := by
  have hb : (encB [a]).length ≤ 262144 := by
    rw [E7.encB_one]
    unfold atomB
    have := headB_le a.kind.toNat (if (a.kind == 2 || a.kind == 3) = true then a.text.length else a.num) (by split <;> omega)
    rw [List.length_append]
    omega
  rw [E7.encode_of_it (E7.ItF.one h1 h2) ?_ (by simp) hb, E7.encB_one]
  intro b hb
  rw [List.mem_singleton.1 hb]
  exact ⟨hn, by omega⟩
theorem uint_enc (n : Nat) (h : n < 18446744073709551616) : E7.encode [⟨0, n, []⟩] = (R7.headB 0 n, 0) := by
  rw [one_enc (a := ⟨0, n, []⟩) rfl rfl h (by simp), head_uint]
/-- A head of another kind. -/
theorem headB_or (n : Nat) : ∃ c t, R7.headB 0 n = c :: t ∧ c.toNat < 32 ∧ R7.headB 2 n = UInt8.ofNat (c.toNat + 64) :: t ∧ R7.headB 4 n = UInt8.ofNat (c.toNat + 128) :: t := by
  unfold R7.headB
  by_cases h : n < 24
  · rw [if_pos h, if_pos h, if_pos h]
    refine ⟨_, _, rfl, ?_, ?_, ?_⟩
    · simp; omega
    · congr 2
      simp
      omega
    · congr 2
      simp
      omega
  · rw [if_neg h, if_neg h, if_neg h]
    have h3 : R7.infoOf n ≤ 3 := by unfold R7.infoOf; (repeat' split) <;> omega
    refine ⟨_, _, rfl, ?_, ?_, ?_⟩
    · simp; omega
    · congr 2
      simp
      omega
    · congr 2
      simp
      omega
end Go.Px.Co
