/- Slices of records: the cells of a list of records. No program in sight. -/
import Derived.Test.YtfdofkokiaapoaaApp
namespace Go.Proofs.Ytfdofkokiaapoaa.W
open Go.RowKit
set_option linter.unusedVariables false

/-- cells written one after the other -/
def setAll : List Value → Nat → List Value → List Value
  | l, _, [] => l
  | l, o, x :: r => setAll (l.set o x) (o + 1) r
theorem setAll_skip (pre rest : List Value) : ∀ (bs : List Value) (o : Nat), setAll (pre ++ rest) (pre.length + o) bs = pre ++ setAll rest o bs := by
  intro bs
  induction bs generalizing rest with
  | nil => intro o; rfl
  | cons b bs ih =>
    intro o
    simp only [setAll]
    rw [List.set_append_right _ _ (by omega), show pre.length + o - pre.length = o by omega, show pre.length + o + 1 = pre.length + (o + 1) by omega]
    exact ih _ _
theorem setAll_head : ∀ (xs bs rest : List Value), xs.length = bs.length → setAll (xs ++ rest) 0 bs = bs ++ rest := by
  intro xs
  induction xs with
  | nil => intro bs rest h; cases bs with | nil => rfl | cons b bs => simp at h
  | cons a xs ih =>
    intro bs rest h
    cases bs with
    | nil => simp at h
    | cons b bs =>
      simp only [setAll, List.cons_append, List.set_cons_zero]
      have := setAll_skip [b] (xs ++ rest) bs 0
      simp only [List.cons_append, List.nil_append, List.length_cons, List.length_nil, Nat.zero_add, Nat.add_zero] at this
      rw [Nat.zero_add, this, ih bs rest (by simpa using h)]
variable {α : Type} {enc : α → List Value} {m : Nat}
/-- the cells of records -/
def rows (enc : α → List Value) : List α → List Value
  | [] => []
  | x :: r => enc x ++ rows enc r
theorem rows_append (l r : List α) : rows enc (l ++ r) = rows enc l ++ rows enc r := by
  induction l with
  | nil => rfl
  | cons x l ih => simp [rows, ih]
theorem rows_snoc (l : List α) (x : α) : rows enc (l ++ [x]) = rows enc l ++ enc x := by rw [rows_append]; simp [rows]
theorem rows_len (he : ∀ v, (enc v).length = m) (l : List α) : (rows enc l).length = l.length * m := by
  induction l with
  | nil => simp [rows]
  | cons x l ih => simp [rows, ih, he, Nat.succ_mul]; omega
theorem rows_at (he : ∀ v, (enc v).length = m) (l : List α) (i : Nat) (x : α) (h : l[i]? = some x) (j : Nat) (hj : j < m) : (rows enc l)[i * m + j]? = (enc x)[j]? := by
  induction l generalizing i with
  | nil => simp at h
  | cons y l ih =>
    cases i with
    | zero =>
      simp at h
      subst h
      rw [Nat.zero_mul, Nat.zero_add]
      simp only [rows]
      rw [List.getElem?_append_left (by rw [he]; exact hj)]
    | succ i =>
      simp at h
      simp only [rows]
      rw [List.getElem?_append_right (by rw [he, Nat.succ_mul]; omega), he, show (i + 1) * m + j - m = i * m + j by rw [Nat.succ_mul]; omega]
      exact ih i h
theorem rows_set (he : ∀ v, (enc v).length = m) (l : List α) (i : Nat) (x : α) (hi : i < l.length) : rows enc (l.set i x) = setAll (rows enc l) (i * m) (enc x) := by
  induction l generalizing i with
  | nil => simp at hi
  | cons y l ih =>
    cases i with
    | zero =>
      rw [Nat.zero_mul]
      simp only [rows, List.set_cons_zero]
      rw [setAll_head _ _ _ (by rw [he, he])]
    | succ i =>
      have := setAll_skip (enc y) (rows enc l) (enc x) (i * m)
      rw [he] at this
      simp only [rows, List.set_cons_succ]
      rw [show (i + 1) * m = m + i * m by rw [Nat.succ_mul]; omega, this, ← ih i (by simpa using hi)]
/-- one cell of one record written -/
theorem rows_field (he : ∀ v, (enc v).length = m) (l : List α) (i j : Nat) (x x' : α) (u : Value) (h : l[i]? = some x) (hj : j < m) (hx : enc x' = (enc x).set j u) : rows enc (l.set i x') = (rows enc l).set (i * m + j) u := by
  induction l generalizing i with
  | nil => simp at h
  | cons y l ih =>
    cases i with
    | zero =>
      simp at h
      subst h
      rw [Nat.zero_mul, Nat.zero_add]
      simp only [rows, List.set_cons_zero]
      rw [List.set_append_left _ _ (by rw [he]; exact hj), hx]
    | succ i =>
      simp at h
      simp only [rows, List.set_cons_succ]
      rw [List.set_append_right _ _ (by rw [he, Nat.succ_mul]; omega), he, show (i + 1) * m + j - m = i * m + j by rw [Nat.succ_mul]; omega, ih i h]
theorem set_mid (l1 : List α) (x x' : α) (l2 : List α) : (l1 ++ x :: l2).set l1.length x' = l1 ++ x' :: l2 := by
  rw [List.set_append_right _ _ (Nat.le_refl _)]; simp
theorem get_mid (l1 : List α) (x : α) (l2 : List α) : (l1 ++ x :: l2)[l1.length]? = some x := by
  rw [List.getElem?_append_right (Nat.le_refl _)]; simp
theorem rows_one (h1 : ∀ v, ∀ u ∈ enc v, u.oneCell' = true) (l : List α) : ∀ u ∈ rows enc l, u.oneCell' = true := by
  induction l with
  | nil => simp [rows]
  | cons x l ih =>
    intro u hu
    simp only [rows, List.mem_append] at hu
    rcases hu with hu | hu
    · exact h1 x u hu
    · exact ih u hu
end Go.Proofs.Ytfdofkokiaapoaa.W
