/- Objects that lie apart: some of them, in another order. No program in sight. -/
import Derived.Test.YtabmmampgmcibaaOb
namespace Go.Proofs.Ytabmmampgmcibaa.W
open Go.RowKit
set_option linter.unusedVariables false

theorem apart_get {l : List Ob} (h : l.Pairwise fun a b => ∀ k, a.F k → ¬ b.F k) {i j : Nat} {a b : Ob} (hij : i ≠ j) (ha : l[i]? = some a) (hb : l[j]? = some b) : ∀ k, a.F k → ¬ b.F k := by
  rw [List.pairwise_iff_getElem] at h
  obtain ⟨hi, rfl⟩ := List.getElem?_eq_some_iff.1 ha
  obtain ⟨hj, rfl⟩ := List.getElem?_eq_some_iff.1 hb
  rcases Nat.lt_or_gt_of_ne hij with hlt | hgt
  · exact h i j hi hj hlt
  · exact fun k h1 h2 => h j i hj hi hgt k h2 h1
/-- some of the objects, in another order -/
theorem All.sel {B : Nat} {w0 w : World} {l : List Ob} (h : All B w0 l w) (is : List Nat) (hn : is.Nodup) : All B w0 (is.filterMap fun i => l[i]?) w := by
  have hmem : ∀ o ∈ is.filterMap (fun i => l[i]?), o ∈ l := by
    intro o ho
    obtain ⟨i, _, hi⟩ := List.mem_filterMap.1 ho
    exact List.mem_of_getElem? hi
  refine ⟨fun o ho => h.P o (hmem o ho), ?_, fun o ho => h.base o (hmem o ho), h.below, h.le⟩
  clear hmem
  induction is with
  | nil => simp
  | cons i is ih =>
    rw [List.nodup_cons] at hn
    rw [List.filterMap_cons]
    split
    · exact ih hn.2
    · rename_i a ha
      rw [List.pairwise_cons]
      refine ⟨fun b hb => ?_, ih hn.2⟩
      obtain ⟨j, hj, hjb⟩ := List.mem_filterMap.1 hb
      exact apart_get h.apart (by rintro rfl; exact hn.1 hj) ha hjb

theorem fm_range (pre : List Ob) : ∀ (l : List Ob) (pre2 : List Ob), (List.range' (pre.length + pre2.length) l.length).filterMap (fun i => (pre ++ (pre2 ++ l))[i]?) = l := by
  intro l
  induction l with
  | nil => intro pre2; simp
  | cons x l ih =>
    intro pre2
    rw [List.length_cons, List.range'_succ, List.filterMap_cons]
    have e : (pre ++ (pre2 ++ x :: l))[pre.length + pre2.length]? = some x := by
      rw [List.getElem?_append_right (by omega), List.getElem?_append_right (by omega)]
      simp [Nat.add_sub_cancel_left]
    rw [e]
    have := ih (pre2 ++ [x])
    simp only [List.append_assoc, List.cons_append, List.nil_append, List.length_append, List.length_cons, List.length_nil, Nat.zero_add] at this
    simp only [Nat.add_assoc] at this ⊢
    rw [this]
/-- the first objects in another order, the others kept -/
theorem All.selp {B : Nat} {w0 w : World} (pre : List Ob) {l : List Ob} (h : All B w0 (pre ++ l) w) (ix : List Nat) (hn : ix.Nodup) (m : Nat) (hm : pre.length = m) (hl' : ∀ i ∈ ix, i < m) : All B w0 (ix.filterMap (fun i => pre[i]?) ++ l) w := by
  have hl : ∀ i ∈ ix, i < pre.length := by rw [hm]; exact hl'
  have h1 := h.sel (ix ++ List.range' pre.length l.length) (by
    rw [List.nodup_append]
    refine ⟨hn, List.nodup_range', ?_⟩
    rintro a ha b hb rfl
    have := hl a ha
    rw [List.mem_range'_1] at hb
    omega)
  rw [List.filterMap_append] at h1
  have e1 : (List.range' pre.length l.length).filterMap (fun i => (pre ++ l)[i]?) = l := by
    have := fm_range pre l []
    simpa using this
  have e2 : ix.filterMap (fun i => (pre ++ l)[i]?) = ix.filterMap (fun i => pre[i]?) := by
    clear hn h1 hl'
    induction ix with
    | nil => rfl
    | cons i ix ih =>
      rw [List.filterMap_cons, List.filterMap_cons, List.getElem?_append_left (hl i (by simp)), ih (fun j hj => hl j (by simp [hj]))]
  rw [e1, e2] at h1
  exact h1

theorem bk_ne {B : Nat} {w0 w : World} {l : List Ob} (h : All B w0 l w) (i j : Nat) (hij : i ≠ j) {g g' : Nat} {cs cs' : List Value} {t t' : TypeId} (hi : l[i]? = some (bk g cs t)) (hj : l[j]? = some (bk g' cs' t')) : g ≠ g' := fun e =>
  apart_get h.apart hij hi hj g rfl e

end Go.Proofs.Ytabmmampgmcibaa.W
