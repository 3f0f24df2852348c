/-
  Plain laws for layer 27: a text of many lines of remarks, cut at its newlines.
-/
import Derived.Lib.SplitLaws
import Derived.Lib.Split
namespace Go.Px.Sc
open Go Go.Lib
/-- A line of remarks, ended. -/
def row (l : List UInt8) : List UInt8 := 35 :: (l ++ [10])
def rows (l : List UInt8) : Nat → List UInt8
  | 0 => []
  | k + 1 => rows l k ++ row l
theorem rows_front (l : List UInt8) : ∀ k, rows l (k + 1) = row l ++ rows l k
  | 0 => by simp [rows]
  | k + 1 => by
    show rows l (k + 1) ++ row l = row l ++ (rows l k ++ row l)
    rw [rows_front l k, List.append_assoc]
theorem row_len (l : List UInt8) : (row l).length = l.length + 2 := by simp [row]
theorem rows_len (l : List UInt8) : ∀ k, (rows l k).length = k * (l.length + 2)
  | 0 => by simp [rows]
  | k + 1 => by
    show (rows l k ++ row l).length = _
    rw [List.length_append, rows_len l k, row_len, Nat.succ_mul]
theorem index_nl (a r : List UInt8) (h : (10 : UInt8) ∉ a) : index (a ++ 10 :: r) [10] = a.length := by
  refine index_first (by simp) ?_ ?_
  · unfold occAt
    rw [List.drop_left]
    rfl
  · intro j hj
    unfold occAt
    have hne : ((10 : UInt8) == a[j]) = false := by
      rw [beq_eq_false_iff_ne]
      exact fun e => h (e ▸ List.getElem_mem hj)
    rw [List.drop_append_of_le_length (Nat.le_of_lt hj), List.drop_eq_getElem_cons hj]
    show ((10 : UInt8) == a[j] && _) = false
    rw [hne]
    rfl
theorem row_cut (l r : List UInt8) (h : (10 : UInt8) ∉ l) : index (row l ++ r) [10] = ((l.length + 1 : Nat) : Int) := by
  have e : row l ++ r = (35 :: l) ++ 10 :: r := by simp [row]
  rw [e, index_nl (35 :: l) r (by simp [h])]
  simp
theorem row_drop (l r : List UInt8) : (row l ++ r).drop (l.length + 1 + 1) = r := by
  rw [List.drop_append_of_le_length (by rw [row_len]; omega), List.drop_of_length_le (by rw [row_len]; omega), List.nil_append]
theorem row_take (l r : List UInt8) : (row l ++ r).take (l.length + 1) = 35 :: l := by
  have e : row l ++ r = (35 :: l) ++ 10 :: r := by simp [row]
  rw [e]
  exact List.take_left' (by simp)
theorem rows_count (l : List UInt8) (h : (10 : UInt8) ∉ l) : ∀ k, count (rows l k) [10] = k
  | 0 => count_miss (by rfl)
  | k + 1 => by
    rw [rows_front, count_hit (by simp) (row_cut l _ h)]
    show 1 + count ((row l ++ rows l k).drop (l.length + 1 + 1)) [10] = k + 1
    rw [row_drop, rows_count l h k]
    omega
theorem rows_split (l : List UInt8) (h : (10 : UInt8) ∉ l) : ∀ k, splitK [10] 0 k (rows l k) = List.replicate k (35 :: l) ++ [[]]
  | 0 => rfl
  | k + 1 => by
    rw [rows_front]
    unfold splitK
    rw [row_cut l _ h, if_neg (by simp; omega)]
    show (row l ++ rows l k).take (l.length + 1) :: splitK [10] 0 k ((row l ++ rows l k).drop (l.length + 1 + 1)) = _
    rw [row_drop, row_take, rows_split l h k]
    rfl
/-- The lines of such a text, as strings.Split hands them over. -/
theorem rows_splitB (l : List UInt8) (h : (10 : UInt8) ∉ l) (k : Nat) : countB ⟨(rows l k).toArray⟩ ⟨#[10]⟩ = k ∧ splitB ⟨#[10]⟩ 0 k ⟨(rows l k).toArray⟩ = List.replicate k ⟨(35 :: l).toArray⟩ ++ [⟨#[]⟩] := by
  refine ⟨rows_count l h k, ?_⟩
  have e := splitB_data ⟨#[10]⟩ 0 k ⟨(rows l k).toArray⟩
  have e1 : splitK [10] 0 k (rows l k) = List.replicate k (35 :: l) ++ [[]] := rows_split l h k
  have e2 : (splitB ⟨#[10]⟩ 0 k ⟨(rows l k).toArray⟩).map (fun x => x.data.toList) = List.replicate k (35 :: l) ++ [[]] := e.trans e1
  have e3 : (List.replicate k (ByteArray.mk (35 :: l).toArray) ++ [ByteArray.mk #[]]).map (fun x : ByteArray => x.data.toList) = List.replicate k (35 :: l) ++ [[]] := by simp
  have inj : ∀ a b : ByteArray, a.data.toList = b.data.toList → a = b := fun a b hh => by
    obtain ⟨⟨x⟩⟩ := a
    obtain ⟨⟨y⟩⟩ := b
    have : x = y := hh
    rw [this]
  have minj : ∀ x y : List ByteArray, x.map (fun x : ByteArray => x.data.toList) = y.map (fun x : ByteArray => x.data.toList) → x = y := by
    intro x
    induction x with
    | nil => intro y hy; cases y with | nil => rfl | cons _ _ => simp at hy
    | cons a as ih =>
      intro y hy
      cases y with
      | nil => simp at hy
      | cons b bs =>
        simp only [List.map_cons, List.cons.injEq] at hy
        rw [inj a b hy.1, ih bs hy.2]
  exact minj _ _ (e2.trans e3.symm)
end Go.Px.Sc
