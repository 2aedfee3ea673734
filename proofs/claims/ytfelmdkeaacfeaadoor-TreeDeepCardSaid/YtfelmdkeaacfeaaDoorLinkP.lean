/- A node hung under another: plain. -/
import Derived.Test.YtfelmdkeaacfeaaDoorSet
namespace Go.Proofs.YtfelmdkeaacfeaaDoor.W
set_option linter.unusedVariables false
set_option linter.unusedSimpArgs false

/-- the fields of the node x when c has been hung under p at place j -/
def linkN (S : Tr) (l : List Nat) (p j c x : Nat) (n : Nd) : Nd :=
  { n with
    parent := if x = c then S.hd p else n.parent
    prev := if x = c then hO S (pv l j) else if l[j]? = some x then S.hd c else n.prev
    next := if x = c then hO S l[j]? else if pv l j = some x then S.hd c else n.next
    first := if x = p ∧ j = 0 then S.hd c else n.first
    last := if x = p ∧ j = l.length then S.hd c else n.last }
def linkK (K : Nat → List Nat) (p j c : Nat) (q : Nat) : List Nat := if q = p then (K p).take j ++ c :: (K p).drop j else K q

theorem ins_at (l : List Nat) (j c i : Nat) (hj : j ≤ l.length) : (l.take j ++ c :: l.drop j)[i]? = if i < j then l[i]? else if i = j then some c else l[i - 1]? := by
  by_cases h1 : i < j
  · rw [if_pos h1, List.getElem?_append_left (by rw [List.length_take]; omega), List.getElem?_take, if_pos h1]
  · rw [if_neg h1, List.getElem?_append_right (by rw [List.length_take]; omega), List.length_take, Nat.min_eq_left hj]
    by_cases h2 : i = j
    · rw [if_pos h2, h2, Nat.sub_self]; rfl
    · rw [if_neg h2, show i - j = (i - 1 - j) + 1 by omega, List.getElem?_cons_succ, List.getElem?_drop]
      congr 1; omega

/-- who has x for a child has it alone -/
theorem Lk.one_par {S K d} (h : Lk S K d) {p q x : Nat} (hp : x ∈ K p) (hq : x ∈ K q) : p = q := by
  obtain ⟨n, hn⟩ := Option.isSome_iff_exists.1 (h.kin p x hp).2
  obtain ⟨np, hnp⟩ := Option.isSome_iff_exists.1 (h.kin p x hp).1
  obtain ⟨nq, hnq⟩ := Option.isSome_iff_exists.1 (h.kin q x hq).1
  obtain ⟨i, hi⟩ := List.mem_iff_getElem?.1 hp
  obtain ⟨j, hj⟩ := List.mem_iff_getElem?.1 hq
  have h1 := (h.kid p i x n hi hn).1
  have h2 := (h.kid q j x n hj hn).1
  have := h.few
  have a := at_lt hnp
  have b := at_lt hnq
  exact hdl_inj (by omega) (by omega) (h1.symm.trans h2)

set_option maxHeartbeats 1000000 in
theorem Lk.link {S S' : Tr} {K : Nat → List Nat} {d d' : Nat → Nat} (h : Lk S K d) {p j c : Nat} {np nc : Nd} (hp : S.at p = Option.some np) (hc : S.at c = Option.some nc) (hj : j ≤ (K p).length)
    (hdet : ∀ q, c ∉ K q) (hpc : p ≠ c)
    (hat : ∀ x, S'.at x = (S.at x).map (linkN S (K p) p j c x)) (hlen : S'.slots.length = S.slots.length) (hhd : ∀ x, S'.hd x = S.hd x)
    (hd1 : d' c = d p + 1) (hd2 : ∀ q k, k ∈ K q → d' k = d' q + 1) (hd3 : d' p = d p) (hd4 : ∀ x, d' x ≤ 128) (hd5 : ∀ x, (S.at x).isSome = true → x ≠ c → (∀ q, x ∉ K q) → d' x = 1) : Lk S' (linkK K p j c) d' := by
  have hO' : ∀ o, hO S' o = hO S o := fun o => by cases o with | none => rfl | some x => exact hhd x
  have hsome : ∀ x, (S'.at x).isSome = (S.at x).isSome := fun x => by rw [hat]; cases S.at x <;> rfl
  have hmem : ∀ q k, k ∈ linkK K p j c q ↔ (k ∈ K q ∨ (q = p ∧ k = c)) := by
    intro q k
    unfold linkK
    by_cases e : q = p
    · subst e
      rw [if_pos rfl, List.mem_append, List.mem_cons]
      constructor
      · rintro (h | rfl | h)
        · exact .inl (List.mem_of_mem_take h)
        · exact .inr ⟨rfl, rfl⟩
        · exact .inl (List.mem_of_mem_drop h)
      · rintro (h | ⟨_, rfl⟩)
        · rw [← List.take_append_drop j (K q), List.mem_append] at h
          rcases h with h | h
          · exact .inl h
          · exact .inr (.inr h)
        · exact .inr (.inl rfl)
    · rw [if_neg e]
      simp [e]
  have hcK : ∀ (i : Nat), (K p)[i]? ≠ Option.some c := fun i e => hdet p (List.mem_of_getElem? e)
  refine ⟨?_, ?_, ?_, ?_, ?_, ?_, ?_, hd4, by rw [hlen]; exact h.few⟩
  · intro q k hk
    rw [hsome, hsome]
    rcases (hmem q k).1 hk with hk | ⟨rfl, rfl⟩
    · exact h.kin q k hk
    · exact ⟨by rw [hp]; rfl, by rw [hc]; rfl⟩
  · intro x n' hx
    rw [hat] at hx
    obtain ⟨n, hn, rfl⟩ := Option.map_eq_some_iff.1 hx
    obtain ⟨h1, h2⟩ := h.node x n hn
    rw [hO', hO']
    unfold linkN linkK
    simp only []
    by_cases e : x = p
    · subst e
      rw [if_pos rfl, ins_at _ _ _ _ hj]
      constructor
      · by_cases j0 : j = 0
        · subst j0; simp [hO]
        · rw [if_neg (fun h => j0 h.2), if_pos (by omega)]; exact h1
      · rw [List.getLast?_append]
        by_cases jl : j = (K x).length
        · subst jl; simp [hO]
        · rw [if_neg (fun h => jl h.2), h2]
          have hdn : (K x).drop j ≠ [] := fun e => by
            have := congrArg List.length e
            rw [List.length_drop] at this
            simp at this; omega
          rw [List.getLast?_cons, List.getLast?_drop, if_neg (by omega)]
          cases e2 : (K x).getLast? with
          | none => rw [List.getLast?_eq_none_iff] at e2; rw [e2] at hdn; simp at hdn
          | some y => simp
    · rw [if_neg e, if_neg (fun h => e h.1), if_neg (fun h => e h.1)]
      exact ⟨h1, h2⟩
  · intro q i k n' hk hx
    rw [hat] at hx
    obtain ⟨n, hn, rfl⟩ := Option.map_eq_some_iff.1 hx
    rw [hO', hO', hhd]
    unfold linkK at hk ⊢
    by_cases e : q = p
    · subst e
      rw [if_pos rfl] at hk ⊢
      rw [ins_at _ _ _ _ hj] at hk
      rw [ins_at _ _ _ _ hj, ins_at _ _ _ _ hj]
      have hinj : ∀ {i i' : Nat} {x : Nat}, (K q)[i]? = Option.some x → (K q)[i']? = Option.some x → i' = i := fun {i i' x} e1 e2 => by
        have hl' := (List.getElem?_eq_some_iff.1 e2).1
        exact (List.getElem?_inj hl' (h.nodup q)).1 (e2.trans e1.symm)
      unfold linkN
      simp only []
      by_cases i1 : i < j
      · rw [if_pos i1] at hk
        obtain ⟨a1, a2, a3⟩ := h.kid q i k n hk hn
        have hkc : k ≠ c := fun e => hcK i (e ▸ hk)
        rw [if_neg hkc, if_neg hkc, if_neg hkc]
        refine ⟨a1, ?_, ?_⟩
        · rw [if_neg (fun e' => by have := hinj hk e'; omega), a2]
          by_cases i0 : i = 0
          · rw [if_pos i0, if_pos i0]
          · rw [if_neg i0, if_neg i0, if_pos (by omega)]
        · by_cases ij : i + 1 = j
          · rw [if_pos (by unfold pv; rw [if_neg (by omega), show j - 1 = i by omega]; exact hk), if_neg (by omega), if_pos ij]; rfl
          · rw [if_neg (fun e' => by
              unfold pv at e'
              split at e'
              · cases e'
              · have := hinj hk e'; omega), a3, if_pos (by omega)]
      · rw [if_neg i1] at hk
        by_cases i2 : i = j
        · subst i2
          rw [if_pos rfl] at hk
          cases hk
          rw [if_pos rfl, if_pos rfl, if_pos rfl]
          refine ⟨rfl, ?_, ?_⟩
          · unfold pv
            by_cases i0 : i = 0
            · rw [if_pos i0, if_pos i0]
            · rw [if_neg i0, if_neg i0, if_pos (by omega)]
          · rw [if_neg (by omega), if_neg (by omega), Nat.add_sub_cancel]
        · rw [if_neg i2] at hk
          obtain ⟨a1, a2, a3⟩ := h.kid q (i - 1) k n hk hn
          have hkc : k ≠ c := fun e => hcK _ (e ▸ hk)
          rw [if_neg hkc, if_neg hkc, if_neg hkc]
          refine ⟨a1, ?_, ?_⟩
          · rw [if_neg (by omega : ¬ i = 0)]
            by_cases ij : i - 1 = j
            · rw [if_pos (by rw [← ij]; exact hk), if_neg (by omega), if_pos ij]; rfl
            · rw [if_neg (fun e' => by have := hinj hk e'; omega), a2, if_neg (by omega), if_neg (by omega), if_neg ij]
          · rw [if_neg (fun e' => by
              unfold pv at e'
              split at e'
              · cases e'
              · have := hinj hk e'; omega), a3, if_neg (by omega), if_neg (by omega), show i + 1 - 1 = i - 1 + 1 by omega]
    · rw [if_neg e] at hk ⊢
      obtain ⟨a1, a2, a3⟩ := h.kid q i k n hk hn
      have hkc : k ≠ c := fun e' => hdet q (e' ▸ List.mem_of_getElem? hk)
      have hnp : ∀ i', (K p)[i']? ≠ Option.some k := fun i' e' => e (h.one_par (List.mem_of_getElem? hk) (List.mem_of_getElem? e'))
      unfold linkN
      simp only []
      rw [if_neg hkc, if_neg hkc, if_neg hkc, if_neg (hnp j), if_neg (c := pv (K p) j = Option.some k) (fun e' => by
        unfold pv at e'
        split at e'
        · cases e'
        · exact hnp _ e')]
      exact ⟨a1, a2, a3⟩
  · intro x n' hx hx2
    rw [hat] at hx
    obtain ⟨n, hn, rfl⟩ := Option.map_eq_some_iff.1 hx
    have hxc : x ≠ c := fun e => hx2 p ((hmem p x).2 (.inr ⟨rfl, e⟩))
    have hxK : ∀ q, x ∉ K q := fun q hq => hx2 q ((hmem q x).2 (.inl hq))
    obtain ⟨a1, a2, a3⟩ := h.top x n hn hxK
    unfold linkN
    simp only []
    rw [if_neg hxc, if_neg hxc, if_neg hxc, if_neg (fun e' => hxK p (List.mem_of_getElem? e')), if_neg (fun e' => by
      unfold pv at e'
      split at e'
      · cases e'
      · exact hxK p (List.mem_of_getElem? e'))]
    exact ⟨a1, a2, a3⟩
  · intro q
    unfold linkK
    by_cases e : q = p
    · rw [if_pos e]
      have hnd := h.nodup p
      rw [← List.take_append_drop j (K p), List.nodup_append] at hnd
      rw [List.nodup_append]
      refine ⟨hnd.1, ?_, ?_⟩
      · rw [List.nodup_cons]
        exact ⟨fun hh => hdet p (List.mem_of_mem_drop hh), hnd.2.1⟩
      · intro a ha b hb
        rw [List.mem_cons] at hb
        rcases hb with rfl | hb
        · rintro rfl; exact hdet p (List.mem_of_mem_take ha)
        · exact hnd.2.2 a ha b hb
    · rw [if_neg e]; exact h.nodup q
  · intro q k hk
    rcases (hmem q k).1 hk with hk | ⟨rfl, rfl⟩
    · exact hd2 q k hk
    · rw [hd1, hd3]
  · intro x hx hxK
    rw [hsome] at hx
    exact hd5 x hx (fun e => hxK p ((hmem p x).2 (.inr ⟨rfl, e⟩))) (fun q hq => hxK q ((hmem q x).2 (.inl hq)))
/-- S' is S with c hung under p at place j -/
structure Linked (S S' : Tr) (l : List Nat) (p j c : Nat) : Prop where
  at_ : ∀ x, S'.at x = (S.at x).map (linkN S l p j c x)
  len : S'.slots.length = S.slots.length
  b : S'.b = S.b
  s : S'.s = S.s
  free : S'.free = S.free
  root : S'.root = S.root
theorem Linked.hd {S S' : Tr} {l : List Nat} {p j c : Nat} (h : Linked S S' l p j c) (x : Nat) : S'.hd x = S.hd x := by unfold Tr.hd; rw [h.b, h.s]
end Go.Proofs.YtfelmdkeaacfeaaDoor.W
