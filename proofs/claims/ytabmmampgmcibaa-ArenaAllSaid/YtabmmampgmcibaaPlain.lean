/- Plain laws on what an arena holds: no program and no memory in sight. -/
import Derived.Test.YtabmmampgmcibaaOb
namespace Go.Proofs.Ytabmmampgmcibaa.W
open Go.RowKit
set_option linter.unusedVariables false

variable {α : Type}

theorem idx_hdl (b s slot : Int) (h0 : 0 ≤ slot) (h1 : slot < 2147483648) : idx b s (hdl b s slot) = slot := by
  have b1 := bnd_lo b
  have s1 := bnd_lo s
  have e : hdl b s slot = bnd b + bnd s * slot := by unfold hdl; rw [if_neg (by omega)]
  have hm : 0 ≤ bnd s * slot := Int.mul_nonneg (by omega) h0
  rw [e, idx_yes]
  · rw [show bnd b + bnd s * slot - bnd b = bnd s * slot by omega]; exact Int.mul_ediv_cancel_left _ (by omega)
  · omega
  · rw [show bnd b + bnd s * slot - bnd b = bnd s * slot by omega]; exact Int.mul_emod_right ..
  · rw [show bnd b + bnd s * slot - bnd b = bnd s * slot by omega, Int.mul_ediv_cancel_left _ (by omega)]; omega

theorem hdl_rng (b s slot : Int) : 0 ≤ hdl b s slot ∧ hdl b s slot ≤ 2147483648000 := by
  unfold hdl
  split
  · omega
  · have := mul_small (bnd_lo s) (bnd_hi s) (by omega) (by omega : slot ≤ 2147483647)
    have := bnd_lo b
    have := bnd_hi b
    omega
theorem hdl_lo (b s slot : Int) : -9223372036854775808 ≤ hdl b s slot := by have := hdl_rng b s slot; omega
theorem hdl_hi (b s slot : Int) : hdl b s slot ≤ 9223372036854775807 := by have := hdl_rng b s slot; omega

/-- free slots are unused and each is named once; the numbers fit -/
structure Good (A : Ar α) : Prop where
  free : ∀ i ∈ A.free, ∃ v, A.slots[i]? = some (false, v)
  nodup : A.free.Nodup
  cnt : A.free.length + A.slots.countP (·.1) = A.slots.length
  live : A.live = (A.slots.countP (·.1) : Nat)

theorem good_new (b s : Int) : Good (newAr b s : Ar α) := ⟨by simp [newAr], by simp [newAr], by simp [newAr], by simp [newAr]⟩
theorem Good.fit {A : Ar α} (h : Good A) {n : Nat} (hn : A.slots.length ≤ n) : Fit A n := by
  have h1 := h.cnt
  have h2 := h.live
  refine ⟨fun i hi => ?_, hn, by omega, by omega, by omega⟩
  obtain ⟨v, hv⟩ := h.free i hi
  exact (List.getElem?_eq_some_iff.1 hv).1

theorem look_of {A : Ar α} {h : Int} {k : Nat} {v : α} (h1 : idx A.b A.s h = (k : Int)) (h2 : A.slots[k]? = some (true, v)) : A.look h = some k := by
  unfold Ar.look
  rw [h1]
  simp [h2]
theorem look_no {A : Ar α} {h : Int} {k : Nat} {v : α} (h1 : idx A.b A.s h = (k : Int)) (h2 : A.slots[k]? = some (false, v)) : A.look h = none := by
  unfold Ar.look
  rw [h1]
  simp [h2]
theorem look_same {A A' : Ar α} (hb : A'.b = A.b) (hs : A'.s = A.s) (hu : A'.slots.map (·.1) = A.slots.map (·.1)) (h : Int) : A'.look h = A.look h := by
  unfold Ar.look
  rw [hb, hs]
  have : ∀ i : Nat, (A'.slots[i]?).map (fun p => p.1) = (A.slots[i]?).map (fun p => p.1) := fun i => by
    rw [← List.getElem?_map, ← List.getElem?_map, hu]
  rw [this]

theorem add_b (A : Ar α) (v : α) : (A.add v).b = A.b := by unfold Ar.add; split <;> rfl
theorem add_s (A : Ar α) (v : α) : (A.add v).s = A.s := by unfold Ar.add; split <;> rfl
theorem drop_b (z : α) (A : Ar α) (h : Int) : (A.drop z h).b = A.b := by unfold Ar.drop; split <;> rfl
theorem drop_s (z : α) (A : Ar α) (h : Int) : (A.drop z h).s = A.s := by unfold Ar.drop; split <;> rfl
theorem setAt_b (A : Ar α) (h : Int) (v : α) : (A.setAt h v).b = A.b := by unfold Ar.setAt; split <;> rfl
theorem setAt_s (A : Ar α) (h : Int) (v : α) : (A.setAt h v).s = A.s := by unfold Ar.setAt; split <;> rfl
theorem add_len (A : Ar α) (v : α) : (A.add v).slots.length ≤ A.slots.length + 1 := by unfold Ar.add; split <;> simp
theorem drop_len (z : α) (A : Ar α) (h : Int) : (A.drop z h).slots.length = A.slots.length := by unfold Ar.drop; split <;> simp [Ar.gone]
theorem setAt_len (A : Ar α) (h : Int) (v : α) : (A.setAt h v).slots.length = A.slots.length := by unfold Ar.setAt; split <;> simp [Ar.put]

theorem getLastD_eq (l : List Nat) (h : l ≠ []) : l.getLastD 0 = l.getLast h := by
  cases l with
  | nil => exact absurd rfl h
  | cons x l => rw [List.getLastD_cons, List.getLast_eq_getLastD]

theorem next_slot {A : Ar α} (hA : Good A) : A.nextSlot ≤ A.slots.length ∧ (A.free ≠ [] → ∃ v, A.slots[A.nextSlot]? = some (false, v)) := by
  unfold Ar.nextSlot
  by_cases h : A.free = []
  · simp [h]
  · rw [if_neg h]
    obtain ⟨v, hv⟩ := hA.free _ (last_mem h)
    exact ⟨Nat.le_of_lt (List.getElem?_eq_some_iff.1 hv).1, fun _ => ⟨v, hv⟩⟩

theorem dropLast_not_mem {l : List Nat} (hn : l.Nodup) (h : l ≠ []) : l.getLastD 0 ∉ l.dropLast := by
  rw [getLastD_eq l h]
  have e := List.dropLast_concat_getLast h
  intro hm
  rw [← e] at hn
  rw [List.nodup_append] at hn
  exact hn.2.2 _ hm _ (by simp) rfl

theorem Good.add {A : Ar α} (hA : Good A) (v : α) : Good (A.add v) := by
  unfold Ar.add
  by_cases h : A.free = []
  · rw [if_pos h]
    have h1 := hA.cnt
    have h2 := hA.live
    rw [h] at h1
    simp at h1
    refine ⟨by simp, by simp, by simp [List.countP_append]; omega, by simp [List.countP_append]; omega⟩
  · rw [if_neg h]
    obtain ⟨u, hu⟩ := hA.free _ (last_mem h)
    obtain ⟨hlt, he⟩ := List.getElem?_eq_some_iff.1 hu
    have h1 := hA.cnt
    have h2 := hA.live
    have h3 := List.length_pos_iff.2 h
    have hc : (A.slots.set (A.free.getLastD 0) (true, v)).countP (·.1) = A.slots.countP (·.1) + 1 := by
      rw [List.countP_set hlt, he]; simp
    refine ⟨?_, ?_, ?_, ?_⟩
    · intro i hi
      simp only at hi ⊢
      obtain ⟨u', hu'⟩ := hA.free i ((List.dropLast_sublist _).subset hi)
      refine ⟨u', ?_⟩
      rw [List.getElem?_set_ne, hu']
      rintro rfl
      exact dropLast_not_mem hA.nodup h hi
    · exact hA.nodup.sublist (List.dropLast_sublist _)
    · simp only [List.length_dropLast, List.length_set, hc]; omega
    · simp only [hc]; omega

theorem Good.gone {A : Ar α} (hA : Good A) (z : α) {k : Nat} {v : α} (hk : A.slots[k]? = some (true, v)) : Good (A.gone z k) := by
  obtain ⟨hlt, he⟩ := List.getElem?_eq_some_iff.1 hk
  have h1 := hA.cnt
  have h2 := hA.live
  have hp : 0 < A.slots.countP (·.1) := List.countP_pos_iff.2 ⟨_, List.getElem_mem hlt, by rw [he]⟩
  have hc : (A.slots.set k (false, z)).countP (·.1) = A.slots.countP (·.1) - 1 := by
    rw [List.countP_set hlt, he]; simp
  unfold Ar.gone
  have hnk : k ∉ A.free := fun hm => by obtain ⟨u, hu⟩ := hA.free k hm; rw [hk] at hu; simp at hu
  refine ⟨?_, ?_, ?_, ?_⟩
  · intro i hi
    simp only [List.mem_append, List.mem_singleton] at hi
    by_cases e : i = k
    · subst e; exact ⟨z, by simp [hlt]⟩
    · obtain ⟨u, hu⟩ := hA.free i (by rcases hi with h | h; exact h; exact absurd h e)
      exact ⟨u, by rw [List.getElem?_set_ne (fun h => e h.symm), hu]⟩
  · simp only
    rw [List.nodup_append]
    exact ⟨hA.nodup, by simp, fun a ha b hb e => by simp at hb; subst hb; subst e; exact hnk ha⟩
  · simp only [List.length_append, List.length_set, hc, List.length_singleton]; omega
  · simp only [hc]; omega

theorem Good.put {A : Ar α} (hA : Good A) {k : Nat} {v v' : α} (hk : A.slots[k]? = some (true, v)) : Good (A.put k v') := by
  obtain ⟨hlt, he⟩ := List.getElem?_eq_some_iff.1 hk
  have hp : 0 < A.slots.countP (·.1) := List.countP_pos_iff.2 ⟨_, List.getElem_mem hlt, by rw [he]⟩
  have hc : (A.slots.set k (true, v')).countP (·.1) = A.slots.countP (·.1) := by
    rw [List.countP_set hlt, he]; simp; omega
  unfold Ar.put
  refine ⟨?_, hA.nodup, ?_, ?_⟩
  · intro i hi
    simp only at hi ⊢
    obtain ⟨u, hu⟩ := hA.free i hi
    refine ⟨u, ?_⟩
    rw [List.getElem?_set_ne, hu]
    rintro rfl
    rw [hk] at hu; simp at hu
  · simp only [List.length_set, hc]; exact hA.cnt
  · simp only [hc]; exact hA.live

theorem Good.drop {A : Ar α} (hA : Good A) (z : α) (h : Int) : Good (A.drop z h) := by
  cases hk : A.look h with
  | none => rw [drop_eq_none hk]; exact hA
  | some k => rw [drop_eq_some hk]; obtain ⟨_, _, v, hv⟩ := look_some hk; exact hA.gone z hv
theorem Good.setAt {A : Ar α} (hA : Good A) (h : Int) (v : α) : Good (A.setAt h v) := by
  cases hk : A.look h with
  | none => rw [setAt_none hk]; exact hA
  | some k => rw [setAt_some hk]; obtain ⟨_, _, v, hv⟩ := look_some hk; exact hA.put hv
end Go.Proofs.Ytabmmampgmcibaa.W
