/- The nodes of a tree counted from its tops: plain. -/
import Derived.Test.YtfelmdkeaacfeaaDoorLinkP
namespace Go.Proofs.YtfelmdkeaacfeaaDoor.W
set_option linter.unusedVariables false
set_option linter.unusedSimpArgs false

/-- the number of the nodes of a subtree -/
def szK (K : Nat → List Nat) : Nat → Nat → Nat
  | 0, _ => 1
  | f + 1, i => 1 + ((K i).map (szK K f)).sum

theorem sum_szK (K : Nat → List Nat) (f : Nat) : ∀ l : List Nat, (l.map (szK K (f + 1))).sum = l.length + ((l.flatMap K).map (szK K f)).sum
  | [] => rfl
  | x :: l => by
    rw [List.map_cons, List.sum_cons, sum_szK K f l, List.flatMap_cons, List.map_append, List.sum_append, List.length_cons, show szK K (f + 1) x = 1 + ((K x).map (szK K f)).sum from rfl]
    omega
theorem sum_szK0 (K : Nat → List Nat) : ∀ l : List Nat, (l.map (szK K 0)).sum = l.length
  | [] => rfl
  | x :: l => by rw [List.map_cons, List.sum_cons, sum_szK0 K l, List.length_cons, show szK K 0 x = 1 from rfl]; omega

/-- the used slots that stand deeper than n -/
def deep (S : Tr) (d : Nat → Nat) (n : Nat) : List Nat := (List.range S.slots.length).filter fun i => (S.at i).isSome && decide (n < d i)
theorem mem_deep {S : Tr} {d : Nat → Nat} {n i : Nat} : i ∈ deep S d n ↔ (S.at i).isSome = true ∧ n < d i := by
  unfold deep
  rw [List.mem_filter, List.mem_range, Bool.and_eq_true, decide_eq_true_iff]
  constructor
  · rintro ⟨_, h⟩; exact h
  · rintro ⟨h1, h2⟩
    obtain ⟨m, hm⟩ := Option.isSome_iff_exists.1 h1
    exact ⟨at_lt hm, h1, h2⟩
theorem deep_nodup (S : Tr) (d : Nat → Nat) (n : Nat) : (deep S d n).Nodup := List.Pairwise.filter _ List.nodup_range
theorem len_of_mem {l m : List Nat} (hl : l.Nodup) (hm : m.Nodup) (h : ∀ x, x ∈ l ↔ x ∈ m) : l.length = m.length := ((List.perm_ext_iff_of_nodup hl hm).2 h).length_eq
theorem nodup_flatMap {S K d} (h : Lk S K d) : ∀ l : List Nat, l.Nodup → (l.flatMap K).Nodup
  | [], _ => List.nodup_nil
  | x :: l, hl => by
    rw [List.nodup_cons] at hl
    rw [List.flatMap_cons, List.nodup_append]
    refine ⟨h.nodup x, nodup_flatMap h l hl.2, ?_⟩
    rintro a ha b hb rfl
    obtain ⟨y, hy, hay⟩ := List.mem_flatMap.1 hb
    have := h.one_par ha hay
    subst this
    exact hl.1 hy

theorem count_deep {S K d} (h : Lk S K d) : ∀ (f n : Nat) (l : List Nat), n + f = 127 → l.Nodup → (∀ i, i ∈ l ↔ (S.at i).isSome = true ∧ d i = n + 1) → (l.map (szK K f)).sum = (deep S d n).length
  | 0, n, l, hn, hl, hm => by
    rw [sum_szK0]
    refine len_of_mem hl (deep_nodup _ _ _) (fun x => ?_)
    rw [hm, mem_deep]
    have := h.low x
    constructor
    · rintro ⟨a, b⟩; exact ⟨a, by omega⟩
    · rintro ⟨a, b⟩; exact ⟨a, by omega⟩
  | f + 1, n, l, hn, hl, hm => by
    have hn2 : (l.flatMap K).Nodup := nodup_flatMap h l hl
    have hm2 : ∀ i, i ∈ l.flatMap K ↔ (S.at i).isSome = true ∧ d i = (n + 1) + 1 := by
      intro i
      rw [List.mem_flatMap]
      constructor
      · rintro ⟨p, hp, hi⟩
        have := (hm p).1 hp
        exact ⟨(h.kin p i hi).2, by rw [h.dep p i hi, this.2]⟩
      · rintro ⟨h1, h2⟩
        by_cases hp : ∃ p, i ∈ K p
        · obtain ⟨p, hp⟩ := hp
          have := h.dep p i hp
          exact ⟨p, (hm p).2 ⟨(h.kin p i hp).1, by omega⟩, hp⟩
        · have := h.one i h1 (fun p hi => hp ⟨p, hi⟩)
          omega
    rw [sum_szK, count_deep h f (n + 1) _ (by omega) hn2 hm2, ← List.length_append]
    refine len_of_mem ?_ (deep_nodup _ _ _) (fun x => ?_)
    · rw [List.nodup_append]
      refine ⟨hl, deep_nodup _ _ _, ?_⟩
      rintro a ha b hb rfl
      have h1 := (hm a).1 ha
      have h2 := mem_deep.1 hb
      omega
    · rw [List.mem_append, hm, mem_deep, mem_deep]
      constructor
      · rintro (⟨a, b⟩ | ⟨a, b⟩) <;> exact ⟨a, by omega⟩
      · rintro ⟨a, b⟩
        by_cases e : d x = n + 1
        · exact .inl ⟨a, e⟩
        · exact .inr ⟨a, by omega⟩

theorem range_shift (p : Nat → Bool) (n : Nat) : ((List.range (n + 1)).filter p).length = (if p 0 = true then 1 else 0) + ((List.range n).filter fun i => p (i + 1)).length := by
  rw [List.range_succ_eq_map, List.filter_cons, List.filter_map, Function.comp_def]
  split <;> simp <;> omega
theorem live_range (l : List (Option Nd)) : (l.filter Option.isSome).length = ((List.range l.length).filter fun i => ((l[i]?).join).isSome).length := by
  induction l with
  | nil => rfl
  | cons x l ih =>
    rw [List.length_cons, range_shift]
    simp only [List.getElem?_cons_succ, List.getElem?_cons_zero]
    rw [← ih, List.filter_cons]
    cases x <;> simp <;> omega
/-- the subtrees of all tops together have as many nodes as there are -/
theorem count_all {S K d} (h : Lk S K d) (hpos : ∀ i, (S.at i).isSome = true → 1 ≤ d i) (l : List Nat) (hl : l.Nodup) (hm : ∀ i, i ∈ l ↔ (S.at i).isSome = true ∧ ∀ p, i ∉ K p) : (l.map (szK K 127)).sum = S.live := by
  rw [count_deep h 127 0 l rfl hl]
  · show ((List.range S.slots.length).filter _).length = (S.slots.filter Option.isSome).length
    rw [live_range]
    congr 1
    refine List.filter_congr (fun i _ => ?_)
    show ((S.at i).isSome && _) = (S.at i).isSome
    cases e : (S.at i).isSome with
    | false => rfl
    | true => have := hpos i e; simp; omega
  · intro i
    rw [hm]
    constructor
    · rintro ⟨a, b⟩; exact ⟨a, h.one i a b⟩
    · rintro ⟨a, b⟩
      refine ⟨a, fun p hp => ?_⟩
      have h1 := h.dep p i hp
      have h2 := hpos p (h.kin p i hp).1
      omega
theorem Lk.pos {S K d} (h : Lk S K d) (i : Nat) (hi : (S.at i).isSome = true) : 1 ≤ d i := by
  by_cases hp : ∃ p, i ∈ K p
  · obtain ⟨p, hp⟩ := hp
    have := h.dep p i hp
    omega
  · have := h.one i hi (fun p hx => hp ⟨p, hx⟩)
    omega
end Go.Proofs.YtfelmdkeaacfeaaDoor.W
