/- Texts joined: ZoL. -/
import Derived.Test.YtfdofkokiaapoaaGreatDoorGv19
section
/- Sizes in plain Lean: what Measure does to an observer of sizes; why the same sizes are not reported again. No program in sight. -/
namespace Go.Proofs.YtfdofkokiaapoaaGreatDoor.W.Z
set_option linter.unusedVariables false

/-- the size that a list gives to a node -/
def nowOf (L : List Sz) (x : Sz) : Sz := match L.find? (fun y => y.1 == x.1) with | some y => y | none => (x.1, 0, 0)
/-- an entry written -/
def putEn (en : List Sz) (y : Sz) : List Sz := match en.findIdx? (fun z => z.1 == y.1) with | some i => en.set i y | none => en ++ [y]
def stepE (L en : List Sz) (x : Sz) : List Sz := if nowOf L x = x then en else putEn en (nowOf L x)
def Nd (l : List Sz) : Prop := l.Pairwise fun a b => a.1 ≠ b.1

theorem nowOf_node (L : List Sz) (x : Sz) : (nowOf L x).1 = x.1 := by
  unfold nowOf
  split
  · rename_i y hy
    simpa using List.find?_some hy
  · rfl
theorem nowOf_congr (L : List Sz) {x y : Sz} (h : x.1 = y.1) : nowOf L x = nowOf L y := by
  unfold nowOf; rw [h]
theorem nowOf_idem (L : List Sz) (x : Sz) : nowOf L (nowOf L x) = nowOf L x := nowOf_congr L (nowOf_node L x)
theorem nowOf_nil (x : Sz) : nowOf [] x = (x.1, 0, 0) := rfl
theorem nowOf_nonneg {L : List Sz} (h : ∀ y ∈ L, 0 ≤ y.2.1 ∧ 0 ≤ y.2.2) (x : Sz) : 0 ≤ (nowOf L x).2.1 ∧ 0 ≤ (nowOf L x).2.2 := by
  unfold nowOf
  split
  · rename_i y hy
    exact h y (List.mem_of_find?_eq_some hy)
  · simp
/-- a place, and what stands there -/
theorem place_cases (L : List Sz) (x : Int) : (placeOf L x = -1 ∧ L.find? (fun y => y.1 == x) = none ∧ L.findIdx? (fun y => y.1 == x) = none) ∨
    ∃ (i : Nat) (y : Sz), placeOf L x = (i : Int) ∧ L[i]? = some y ∧ y.1 = x ∧ L.find? (fun y => y.1 == x) = some y ∧ L.findIdx? (fun y => y.1 == x) = some i := by
  cases h : L.findIdx? (fun y => y.1 == x) with
  | none =>
    left
    refine ⟨by unfold placeOf; rw [h], ?_, rfl⟩
    rw [List.find?_eq_none]
    rw [List.findIdx?_eq_none_iff] at h
    intro y hy
    have := h y hy
    simpa using this
  | some i =>
    right
    have h' := h
    rw [List.findIdx?_eq_some_iff_getElem] at h
    obtain ⟨hi, hy, hlt⟩ := h
    refine ⟨i, L[i], by unfold placeOf; rw [h'], List.getElem?_eq_getElem hi, by simpa using hy, ?_, rfl⟩
    rw [List.find?_eq_some_iff_getElem]
    exact ⟨by simpa using hy, i, hi, rfl, fun j hj => by have := hlt j hj; simpa using this⟩

theorem putEn_nd {en : List Sz} (y : Sz) (h : Nd en) : Nd (putEn en y) := by
  unfold putEn
  rcases place_cases en y.1 with ⟨_, _, hn⟩ | ⟨i, z, _, hz, hy, _, hs⟩
  · rw [hn]
    unfold Nd at *
    rw [List.pairwise_append]
    refine ⟨h, by simp, ?_⟩
    intro a ha b hb
    rw [List.findIdx?_eq_none_iff] at hn
    have := hn a ha
    simp at hb
    subst hb
    simpa using this
  · rw [hs]
    unfold Nd at *
    obtain ⟨hi, hz'⟩ := List.getElem?_eq_some_iff.1 hz
    have e : (en.set i y).map (·.1) = en.map (·.1) := by
      rw [List.map_set]
      apply List.ext_getElem?
      intro j
      rw [List.getElem?_set]
      split
      · rename_i e
        subst e
        simp only [List.length_map, hi, if_true, List.getElem?_map, hz, Option.map_some, hy]
      · rfl
    have h2 : (en.map (·.1)).Pairwise (· ≠ ·) := by rw [List.pairwise_map]; exact h
    rw [← e, List.pairwise_map] at h2
    exact h2
/-- what is among the entries once one is written -/
theorem putEn_mem {en : List Sz} {y e : Sz} (h : Nd en) (he : e ∈ putEn en y) : (e ∈ en ∧ e.1 ≠ y.1) ∨ e = y := by
  unfold putEn at he
  rcases place_cases en y.1 with ⟨_, _, hn⟩ | ⟨i, z, _, hz, hy, _, hs⟩
  · rw [hn] at he
    rw [List.findIdx?_eq_none_iff] at hn
    rcases List.mem_append.1 he with he | he
    · exact .inl ⟨he, by simpa using hn e he⟩
    · right; simpa using he
  · rw [hs] at he
    obtain ⟨j, hj⟩ := List.getElem?_of_mem he
    obtain ⟨hi, hz'⟩ := List.getElem?_eq_some_iff.1 hz
    rw [List.getElem?_set] at hj
    split at hj
    · rename_i e'
      right
      subst e'
      try rw [if_pos hi] at hj
      exact (Option.some.inj hj).symm
    · rename_i e'
      left
      obtain ⟨hjl, hj'⟩ := List.getElem?_eq_some_iff.1 hj
      refine ⟨List.mem_of_getElem? hj, ?_⟩
      unfold Nd at h
      rw [List.pairwise_iff_getElem] at h
      rw [← hy, ← hz', ← hj']
      rcases Nat.lt_or_gt_of_ne e' with h1 | h1
      · exact fun hh => h i j hi hjl h1 hh.symm
      · exact h j i hjl hi h1
theorem fold_nd {L : List Sz} : ∀ (xs : List Sz) {en : List Sz}, Nd en → Nd (xs.foldl (stepE L) en) := by
  intro xs
  induction xs with
  | nil => intro en h; exact h
  | cons x xs ih =>
    intro en h
    rw [List.foldl_cons]
    refine ih ?_
    unfold stepE
    split
    · exact h
    · exact putEn_nd _ h
theorem fold_mem {L : List Sz} : ∀ (xs : List Sz) {en : List Sz} {e : Sz}, Nd en → e ∈ xs.foldl (stepE L) en → (e ∈ en ∧ ∀ x ∈ xs, nowOf L x ≠ x → x.1 ≠ e.1) ∨ ∃ x ∈ xs, nowOf L x ≠ x ∧ e = nowOf L x := by
  intro xs
  induction xs with
  | nil => intro en e _ h; exact .inl ⟨h, by simp⟩
  | cons x xs ih =>
    intro en e h he
    rw [List.foldl_cons] at he
    have h' : Nd (stepE L en x) := by
      unfold stepE
      split
      · exact h
      · exact putEn_nd _ h
    rcases ih h' he with ⟨h1, h2⟩ | ⟨y, hy, h1, h2⟩
    · unfold stepE at h1
      split at h1
      · rename_i hx
        refine .inl ⟨h1, fun y hy hne => ?_⟩
        rcases List.mem_cons.1 hy with rfl | hy
        · exact absurd hx hne
        · exact h2 y hy hne
      · rename_i hx
        rcases putEn_mem h h1 with ⟨h3, h4⟩ | rfl
        · refine .inl ⟨h3, fun y hy hne => ?_⟩
          rcases List.mem_cons.1 hy with rfl | hy
          · rw [nowOf_node] at h4; exact fun e => h4 e.symm
          · exact h2 y hy hne
        · exact .inr ⟨x, by simp, hx, rfl⟩
    · exact .inr ⟨y, by simp [hy], h1, h2⟩
/-- where nothing has changed -/
theorem fold_same {L : List Sz} (en : List Sz) : ∀ xs : List Sz, (∀ x ∈ xs, nowOf L x = x) → xs.foldl (stepE L) en = en := by
  intro xs
  induction xs with
  | nil => intro _; rfl
  | cons x xs ih =>
    intro h
    rw [List.foldl_cons]
    have : stepE L en x = en := by unfold stepE; rw [if_pos (h x (by simp))]
    rw [this]
    exact ih fun y hy => h y (by simp [hy])
theorem putEn_new {en : List Sz} {y : Sz} (h : ∀ e ∈ en, e.1 ≠ y.1) : putEn en y = en ++ [y] := by
  unfold putEn
  have : en.findIdx? (fun z => z.1 == y.1) = none := by
    rw [List.findIdx?_eq_none_iff]
    intro e he
    simpa using h e he
  rw [this]
/-- where all have changed and none is noted yet -/
theorem fold_all {L : List Sz} : ∀ (xs en : List Sz), Nd xs → (∀ x ∈ xs, nowOf L x ≠ x) → (∀ x ∈ xs, ∀ e ∈ en, e.1 ≠ x.1) → xs.foldl (stepE L) en = en ++ xs.map (nowOf L) := by
  intro xs
  induction xs with
  | nil => intro en _ _ _; simp
  | cons x xs ih =>
    intro en hnd h1 h2
    unfold Nd at hnd
    rw [List.pairwise_cons] at hnd
    rw [List.foldl_cons]
    have : stepE L en x = en ++ [nowOf L x] := by
      unfold stepE
      rw [if_neg (h1 x (by simp))]
      exact putEn_new fun e he => by rw [nowOf_node]; exact h2 x (by simp) e he
    rw [this, ih (en ++ [nowOf L x]) hnd.2 (fun y hy => h1 y (by simp [hy])) ?_]
    · simp
    · intro y hy e he
      rcases List.mem_append.1 he with he | he
      · exact h2 y (by simp [hy]) e he
      · simp at he
        subst he
        rw [nowOf_node]
        exact hnd.1 y hy
theorem map_now_nd {L xs : List Sz} (h : Nd xs) : Nd (xs.map (nowOf L)) := by
  unfold Nd at *
  rw [List.pairwise_map]
  exact h.imp fun {a b} hab => by rw [nowOf_node, nowOf_node]; exact hab

/-- the sizes of nodes that are not displayed, displayed, and not displayed: all entries are 0, 0, of nodes that have been more -/
theorem steady_end {L s1 : List Sz} (hL : ∀ x ∈ s1, nowOf L x = x) : ∀ e ∈ s1.foldl (stepE []) ((s1.map (nowOf [])).foldl (stepE L) (s1.foldl (stepE []) [])), e.2.1 = 0 ∧ e.2.2 = 0 ∧ nowOf L e ≠ (e.1, 0, 0) := by
  have n3 : Nd (s1.foldl (stepE []) []) := fold_nd s1 (by simp [Nd])
  have n4 := fold_nd (L := L) (s1.map (nowOf [])) n3
  have g3 : ∀ e ∈ s1.foldl (stepE []) [], ∃ y ∈ s1, y.1 = e.1 ∧ y ≠ (y.1, 0, 0) := by
    intro e he
    rcases fold_mem s1 (by simp [Nd]) he with ⟨h, _⟩ | ⟨x, hx, h1, rfl⟩
    · simp at h
    · exact ⟨x, hx, (nowOf_node _ _).symm, fun h => h1 (by rw [nowOf_nil]; exact h.symm)⟩
  have g4 : ∀ e ∈ (s1.map (nowOf [])).foldl (stepE L) (s1.foldl (stepE []) []), ∃ y ∈ s1, y.1 = e.1 ∧ y ≠ (y.1, 0, 0) := by
    intro e he
    rcases fold_mem _ n3 he with ⟨h, _⟩ | ⟨x, hx, h1, rfl⟩
    · exact g3 e h
    · obtain ⟨y, hy, rfl⟩ := List.mem_map.1 hx
      refine ⟨y, hy, by rw [nowOf_node, nowOf_node], fun h => h1 ?_⟩
      have : nowOf L (nowOf [] y) = y := (nowOf_congr L (nowOf_node [] y)).trans (hL y hy)
      rw [this, nowOf_nil]
      exact h
  have key : ∀ y ∈ s1, y ≠ (y.1, 0, 0) → ∀ e : Sz, y.1 = e.1 → nowOf L e ≠ (e.1, 0, 0) := by
    intro y hy hne e he h
    apply hne
    rw [← nowOf_congr L he, hL y hy, ← he] at h
    exact h
  intro e he
  rcases fold_mem s1 n4 he with ⟨h, h2⟩ | ⟨x, hx, h1, rfl⟩
  · obtain ⟨y, hy, h3, h4⟩ := g4 e h
    exact absurd h3 (h2 y hy (by rw [nowOf_nil]; exact fun e => h4 e.symm))
  · rw [nowOf_nil] at *
    exact ⟨rfl, rfl, key x hx (fun h => h1 h.symm) _ rfl⟩
end Go.Proofs.YtfdofkokiaapoaaGreatDoor.W.Z
end
