/- ArenaFresh, the plain law: what the arena holds after each round of the law's three loops. -/
import Derived.Test.YtabmmampgmcibaaPlain
namespace Go.Proofs.Ytabmmampgmcibaa.W
open Go.RowKit

def fA (b s : Int) (i : Nat) : Ar Int := ⟨b, s, (List.range i).map fun j : Nat => (true, (j : Int)), [], i⟩
def fD (b s : Int) (m j : Nat) : Ar Int := ⟨b, s, (List.range m).map fun x : Nat => if x < j then (false, 0) else (true, (x : Int)), List.range j, m - j⟩
def fR (b s : Int) (m k i : Nat) : Ar Int := ⟨b, s, (List.range m).map fun x : Nat => if x < k - i then (false, 0) else if x < k then (true, -1) else (true, (x : Int)), List.range (k - i), m - k + i⟩
def hs (b s : Int) (i : Nat) : List Int := (List.range i).map fun j : Nat => hdl b s (j : Nat)

theorem hs_len (b s : Int) (i : Nat) : (hs b s i).length = i := by simp [hs]
theorem hs_get (b s : Int) {i j : Nat} (h : j < i) : (hcells (hs b s i))[j]? = some (.int .i64 (hdl b s (j : Nat))) := by
  simp [hcells, hs, h]
theorem hs_succ (b s : Int) (i : Nat) : hs b s (i + 1) = hs b s i ++ [hdl b s (i : Nat)] := by simp [hs, List.range_succ]
theorem fA_zero (b s : Int) : fA b s 0 = newAr b s := rfl
theorem fA_next (b s : Int) (i : Nat) : (fA b s i).nextSlot = i := by simp [fA, Ar.nextSlot]
theorem fA_add (b s : Int) (i : Nat) : (fA b s i).add (i : Int) = fA b s (i + 1) := by simp [fA, Ar.add, List.range_succ]
theorem fA_fit (b s : Int) (i n : Nat) (h : i ≤ n) : Fit (fA b s i) n := ⟨by simp [fA], by simp [fA]; omega, by simp [fA], by simp [fA], by simp [fA]; omega⟩
theorem fD_zero (b s : Int) (m : Nat) : fD b s m 0 = fA b s m := by simp [fD, fA]
theorem fD_fit (b s : Int) (m j n : Nat) (h : m ≤ n) (hj : j ≤ m) : Fit (fD b s m j) n :=
  ⟨by simp [fD]; omega, by simp [fD]; omega, by simp [fD]; omega, by simp [fD]; omega, by simp [fD]; omega⟩
theorem fD_get (b s : Int) (m j x : Nat) (hx : x < m) : (fD b s m j).slots[x]? = some (if x < j then (false, 0) else (true, (x : Int))) := by simp [fD, hx]
theorem fD_look (b s : Int) (m j : Nat) (h : j < m) (hm : m ≤ 1000) : (fD b s m j).look (hdl b s (j : Nat)) = some j :=
  look_of (v := (j : Int)) (idx_hdl b s j (by omega) (by omega)) (by rw [fD_get b s m j j h]; simp)
theorem fD_has (b s : Int) (m j : Nat) (h : j < m) (hm : m ≤ 1000) : (fD b s m j).has (hdl b s (j : Nat)) = true := has_some (fD_look b s m j h hm)
theorem fD_drop (b s : Int) (m j : Nat) (h : j < m) (hm : m ≤ 1000) : (fD b s m j).drop 0 (hdl b s (j : Nat)) = fD b s m (j + 1) := by
  rw [drop_eq_some (fD_look b s m j h hm)]
  unfold Ar.gone fD
  simp only [Ar.mk.injEq, true_and]
  refine ⟨?_, by rw [List.range_succ], by omega⟩
  apply List.ext_getElem?
  intro x
  rw [List.getElem?_set]
  by_cases hx : x < m
  · by_cases e : j = x
    · subst e; simp [hx]
    · rw [if_neg e]
      simp only [List.getElem?_map, List.getElem?_range hx, Option.map_some]
      by_cases hl : x < j
      · rw [if_pos hl, if_pos (by omega)]
      · rw [if_neg hl, if_neg (by omega)]
  · simp [hx]; omega
theorem fD_look_no (b s : Int) (m j : Nat) (h : j < m) (hm : m ≤ 1000) : (fD b s m (j + 1)).look (hdl b s (j : Nat)) = none :=
  look_no (v := 0) (idx_hdl b s j (by omega) (by omega)) (by rw [fD_get b s m (j + 1) j h]; simp)
theorem fD_hasnt (b s : Int) (m j : Nat) (h : j < m) (hm : m ≤ 1000) : (fD b s m (j + 1)).has (hdl b s (j : Nat)) = false := has_none (fD_look_no b s m j h hm)
theorem fD_drop_no (b s : Int) (m j : Nat) (h : j < m) (hm : m ≤ 1000) : (fD b s m (j + 1)).drop 0 (hdl b s (j : Nat)) = fD b s m (j + 1) := drop_eq_none (fD_look_no b s m j h hm)
theorem fR_zero (b s : Int) (m k : Nat) : fR b s m k 0 = fD b s m k := by
  unfold fR fD
  simp only [Nat.sub_zero, Ar.mk.injEq, true_and]
  refine ⟨?_, by omega⟩
  apply List.map_congr_left
  intro x _
  split <;> rfl
theorem fR_next (b s : Int) (m k i : Nat) (h : i < k) : (fR b s m k i).nextSlot = k - 1 - i := by
  unfold Ar.nextSlot fR
  obtain ⟨q, hq⟩ : ∃ q, k - i = q + 1 := ⟨k - i - 1, by omega⟩
  simp only [hq, List.range_succ]
  rw [if_neg (by simp)]
  simp
  omega
theorem fR_add (b s : Int) (m k i : Nat) (h : i < k) : (fR b s m k i).add (-1) = fR b s m k (i + 1) := by
  unfold Ar.add fR
  obtain ⟨q, hq⟩ : ∃ q, k - i = q + 1 := ⟨k - i - 1, by omega⟩
  have hq2 : k - (i + 1) = q := by omega
  simp only [hq, hq2, List.range_succ]
  rw [if_neg (by simp)]
  simp only [Ar.mk.injEq, true_and]
  refine ⟨?_, by simp, by omega⟩
  have hl : (List.range q ++ [q]).getLastD 0 = q := by simp
  rw [hl]
  apply List.ext_getElem?
  intro x
  rw [List.getElem?_set]
  by_cases hx : x < m
  · by_cases e : q = x
    · subst e; simp [hx]; omega
    · rw [if_neg e]
      simp only [List.getElem?_map, List.getElem?_range hx, Option.map_some]
      by_cases hl : x < q
      · rw [if_pos hl, if_pos (by omega)]
      · rw [if_neg hl, if_neg (by omega)]
  · simp [hx]; omega
theorem fR_fit (b s : Int) (m k i n : Nat) (h : m ≤ n) (hk : k ≤ m) (hi : i ≤ k) : Fit (fR b s m k i) n :=
  ⟨by simp [fR]; omega, by simp [fR]; omega, by simp [fR]; omega, by simp [fR]; omega, by simp [fR]; omega⟩
theorem fR_len (b s : Int) (m k i : Nat) : (fR b s m k i).slots.length = m := by simp [fR]
theorem fR_free (b s : Int) (m k : Nat) : (fR b s m k k).free.length = 0 := by simp [fR]
theorem fR_live (b s : Int) (m k : Nat) : (fR b s m k k).live = (m : Int) := by simp [fR]
end Go.Proofs.Ytabmmampgmcibaa.W
