/- Arenas of any records: the cells of slots. No program in sight. -/
import Derived.Test.YtabmmampgmcibaaApp
import Derived.Test.YtabmmampgmcibaaPlain
import Derived.Test.YtabmmampgmcibaaPlaysA
import Derived.Test.YtabmmampgmcibaaRegM
namespace Go.Proofs.Ytabmmampgmcibaa.W
open Go.RowKit
set_option linter.unusedVariables false

/-- cells written one after the other -/
def setAll : List Value → Nat → List Value → List Value
  | l, _, [] => l
  | l, o, x :: r => setAll (l.set o x) (o + 1) r
theorem setAll_skip (pre rest : List Value) : ∀ (bs : List Value) (o : Nat), setAll (pre ++ rest) (pre.length + o) bs = pre ++ setAll rest o bs := by
  intro bs
  induction bs generalizing rest with
  | nil => intro o; rfl
  | cons b bs ih =>
    intro o
    simp only [setAll]
    rw [List.set_append_right _ _ (by omega), show pre.length + o - pre.length = o by omega, show pre.length + o + 1 = pre.length + (o + 1) by omega]
    exact ih _ _
theorem setAll_head : ∀ (xs bs rest : List Value), xs.length = bs.length → setAll (xs ++ rest) 0 bs = bs ++ rest := by
  intro xs
  induction xs with
  | nil => intro bs rest h; cases bs with | nil => rfl | cons b bs => simp at h
  | cons a xs ih =>
    intro bs rest h
    cases bs with
    | nil => simp at h
    | cons b bs =>
      simp only [setAll, List.cons_append, List.set_cons_zero]
      have := setAll_skip [b] (xs ++ rest) bs 0
      simp only [List.cons_append, List.nil_append, List.length_cons, List.length_nil, Nat.zero_add, Nat.add_zero] at this
      rw [Nat.zero_add, this, ih bs rest (by simpa using h)]
variable {α : Type} {enc : α → List Value} {m : Nat}
theorem scells_at (he : ∀ v, (enc v).length = m) (l : List (Bool × α)) (i : Nat) (u : Bool) (v : α) (h : l[i]? = some (u, v)) :
    (scells enc l)[i * (m + 1)]? = some (.bool u) ∧ ∀ j, j < m → (scells enc l)[i * (m + 1) + (1 + j)]? = (enc v)[j]? := by
  induction l generalizing i with
  | nil => simp at h
  | cons x l ih =>
    obtain ⟨u', v'⟩ := x
    cases i with
    | zero =>
      simp at h
      obtain ⟨rfl, rfl⟩ := h
      refine ⟨by simp [scells], fun j hj => ?_⟩
      rw [Nat.zero_mul, Nat.zero_add, Nat.add_comm 1 j]
      simp only [scells, List.getElem?_cons_succ]
      rw [List.getElem?_append_left (by rw [he]; exact hj)]
    | succ i =>
      simp at h
      have := ih i h
      have hl : (Value.bool u' :: enc v').length = m + 1 := by simp [he]
      have e : scells enc ((u', v') :: l) = (Value.bool u' :: enc v') ++ scells enc l := by simp [scells]
      rw [e]
      refine ⟨?_, fun j hj => ?_⟩
      · rw [List.getElem?_append_right (by rw [hl, Nat.succ_mul]; omega), hl, show (i + 1) * (m + 1) - (m + 1) = i * (m + 1) by rw [Nat.succ_mul]; omega]
        exact this.1
      · rw [List.getElem?_append_right (by rw [hl, Nat.succ_mul]; omega), hl, show (i + 1) * (m + 1) + (1 + j) - (m + 1) = i * (m + 1) + (1 + j) by rw [Nat.succ_mul]; omega]
        exact this.2 j hj
theorem scells_set (he : ∀ v, (enc v).length = m) (l : List (Bool × α)) (i : Nat) (u : Bool) (v : α) (hi : i < l.length) : scells enc (l.set i (u, v)) = setAll (scells enc l) (i * (m + 1)) (.bool u :: enc v) := by
  induction l generalizing i with
  | nil => simp at hi
  | cons x l ih =>
    obtain ⟨u', v'⟩ := x
    have e : scells enc ((u', v') :: l) = (Value.bool u' :: enc v') ++ scells enc l := by simp [scells]
    rw [e]
    cases i with
    | zero =>
      rw [Nat.zero_mul, setAll_head _ _ _ (by simp [he])]
      simp [scells]
    | succ i =>
      have hl : (Value.bool u' :: enc v').length = m + 1 := by simp [he]
      have := setAll_skip (Value.bool u' :: enc v') (scells enc l) (.bool u :: enc v) (i * (m + 1))
      rw [hl] at this
      rw [show (i + 1) * (m + 1) = m + 1 + i * (m + 1) by rw [Nat.succ_mul]; omega, this, ← ih i (by simpa using hi)]
      simp [scells]
theorem scells_len (he : ∀ v, (enc v).length = m) (l : List (Bool × α)) : (scells enc l).length = l.length * (m + 1) := scells_length enc (m + 1) (fun v => by rw [he]) l
theorem scells_one (h1 : ∀ v, ∀ u ∈ enc v, u.oneCell' = true) (l : List (Bool × α)) : ∀ u ∈ scells enc l, u.oneCell' = true := by
  induction l with
  | nil => simp [scells]
  | cons x l ih =>
    obtain ⟨b, v⟩ := x
    intro u hu
    simp only [scells, List.mem_cons, List.mem_append] at hu
    rcases hu with rfl | hu | hu
    · rfl
    · exact h1 v u hu
    · exact ih u hu
end Go.Proofs.Ytabmmampgmcibaa.W
