/- Looking up a name, plain: the table is sorted; what the binary search has shown is enough. -/
import Derived.Test.YtefijebbndnnjaaDoorEntP
import Derived.Sort.Walk0
set_option linter.unusedVariables false
namespace Go.Proofs.YtefijebbndnnjaaDoor.W

/-- the character of a name -/
def lookP (s : List UInt8) : Option (List UInt8) := (tabE.find? (fun p => p.1 == s)).map (·.2)
theorem less_irrefl : ∀ x : List UInt8, Op.bytesLess x x = false
  | [] => rfl
  | a :: x => by simp [Op.bytesLess, less_irrefl x]
theorem less_trans : ∀ {x y z : List UInt8}, Op.bytesLess x y = true → Op.bytesLess y z = true → Op.bytesLess x z = true
  | _, [], _, h, _ => by simp [Op.bytesLess] at h
  | _, _ :: _, [], _, h => by simp [Op.bytesLess] at h
  | [], _ :: _, _ :: _, _, _ => rfl
  | a :: x, b :: y, c :: z, h1, h2 => by
    simp only [Op.bytesLess, Bool.or_eq_true, Bool.and_eq_true, decide_eq_true_eq, beq_iff_eq] at h1 h2 ⊢
    rcases h1 with h1 | ⟨rfl, h1⟩
    · rcases h2 with h2 | ⟨rfl, h2⟩
      · exact .inl (UInt8.lt_trans h1 h2)
      · exact .inl h1
    · rcases h2 with h2 | ⟨rfl, h2⟩
      · exact .inl h2
      · exact .inr ⟨rfl, less_trans h1 h2⟩
theorem tab_sorted : ∀ i j : Fin 30, i < j → Op.bytesLess (tabE[i.val]'(Nat.lt_of_lt_of_eq i.2 rfl)).1 (tabE[j.val]'(Nat.lt_of_lt_of_eq j.2 rfl)).1 = true := by decide +kernel
theorem tab_less {i j : Nat} {x y : List UInt8 × List UInt8} (hx : tabE[i]? = some x) (hy : tabE[j]? = some y) (h : i < j) : Op.bytesLess x.1 y.1 = true := by
  obtain ⟨hi, rfl⟩ := List.getElem?_eq_some_iff.1 hx
  obtain ⟨hj, rfl⟩ := List.getElem?_eq_some_iff.1 hy
  exact tab_sorted ⟨i, hi⟩ ⟨j, hj⟩ h
/-- what the search has shown of the places below lo and from hi on -/
structure Srch (s : List UInt8) (lo hi : Nat) : Prop where
  le : lo ≤ hi
  top : hi ≤ 30
  low : ∀ i x, tabE[i]? = some x → i < lo → Op.bytesLess x.1 s = true
  high : ∀ i x, tabE[i]? = some x → hi ≤ i → Op.bytesLess x.1 s = false
theorem Srch.init (s : List UInt8) : Srch s 0 30 := ⟨by omega, by omega, fun i x _ h => by omega, fun i x hx h => by
  have := (List.getElem?_eq_some_iff.1 hx).1
  have e : tabE.length = 30 := rfl
  omega⟩
theorem Srch.right {s : List UInt8} {lo hi m : Nat} {x} (h : Srch s lo hi) (hx : tabE[m]? = some x) (h1 : lo ≤ m) (h2 : m < hi) (hl : Op.bytesLess x.1 s = true) : Srch s (m + 1) hi :=
  ⟨by omega, h.top, fun i y hy hi' => by
    rcases Nat.lt_or_ge i m with h' | h'
    · exact less_trans (tab_less hy hx h') hl
    · obtain rfl : i = m := by omega
      rw [hx] at hy; cases hy; exact hl, h.high⟩
theorem Srch.left {s : List UInt8} {lo hi m : Nat} {x} (h : Srch s lo hi) (hx : tabE[m]? = some x) (h1 : lo ≤ m) (h2 : m < hi) (hl : Op.bytesLess x.1 s = false) : Srch s lo m :=
  ⟨h1, by have := h.top; omega, h.low, fun i y hy hi' => by
    rcases Nat.lt_or_ge m i with h' | h'
    · cases e : Op.bytesLess y.1 s with
      | false => rfl
      | true => rw [less_trans (tab_less hx hy h') e] at hl; cases hl
    · obtain rfl : i = m := by omega
      rw [hx] at hy; cases hy; exact hl⟩
theorem Srch.found {s : List UInt8} {lo : Nat} {x} (h : Srch s lo lo) (hx : tabE[lo]? = some x) (he : x.1 = s) : lookP s = some x.2 := by
  have : tabE.find? (fun p => p.1 == s) = some x := by
    rw [List.find?_eq_some_iff_getElem]
    obtain ⟨hl, e⟩ := List.getElem?_eq_some_iff.1 hx
    refine ⟨by simpa using he, lo, hl, e, fun j hj => ?_⟩
    have := h.low j _ (List.getElem?_eq_getElem (by omega)) hj
    simp only [Bool.not_eq_true', beq_eq_false_iff_ne, ne_eq]
    intro e'
    rw [e', less_irrefl] at this
    cases this
  unfold lookP
  rw [this]
  rfl
theorem Srch.absent {s : List UInt8} {lo : Nat} (h : Srch s lo lo) (hn : ∀ x, tabE[lo]? = some x → x.1 ≠ s) : lookP s = none := by
  have : tabE.find? (fun p => p.1 == s) = none := by
    rw [List.find?_eq_none]
    intro y hy
    obtain ⟨i, hi, e⟩ := List.mem_iff_getElem.1 hy
    have hy' : tabE[i]? = some y := by rw [List.getElem?_eq_getElem hi, e]
    simp only [beq_iff_eq]
    intro e'
    rcases Nat.lt_trichotomy i lo with h' | h' | h'
    · have := h.low i y hy' h'
      rw [e', less_irrefl] at this; cases this
    · subst h'; exact hn y hy' e'
    · have hlt : lo < tabE.length := by omega
      have hx := List.getElem?_eq_getElem hlt
      have h1 := tab_less hx hy' h'
      have h2 := h.high lo _ hx (Nat.le_refl _)
      rw [e'] at h1
      rw [h1] at h2; cases h2
  unfold lookP
  rw [this]
  rfl
end Go.Proofs.YtefijebbndnnjaaDoor.W
