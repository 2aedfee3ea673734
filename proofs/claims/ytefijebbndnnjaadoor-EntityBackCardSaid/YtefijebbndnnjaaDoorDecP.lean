/- Next and Decode, plain: the program's Next is the reference's; what Decode computes; its laws. -/
import Derived.Test.YtefijebbndnnjaaDoorNextP
import Derived.Lib.IndexMore
set_option linter.unusedVariables false
set_option linter.unusedSimpArgs false
namespace Go.Proofs.YtefijebbndnnjaaDoor.W

/-- the reference's Next -/
def nextR (l : List UInt8) : List UInt8 × Nat :=
  if Lib.hasPrefix l [38, 35, 120] || Lib.hasPrefix l [38, 35, 88] then numericP l 3 16
  else if Lib.hasPrefix l [38, 35] then numericP l 2 10
  else match tabR.find? (fun p => Lib.hasPrefix l (38 :: p.1 ++ [59])) with
    | some p => (p.2, p.1.length + 2)
    | none => match (tabR.take 4).find? (fun p => Lib.hasPrefix l (38 :: p.1) && endsP (l.drop (p.1.length + 1))) with
      | some p => (p.2, p.1.length + 1)
      | none => ([], 0)

theorem pre_cons (a b : UInt8) (x y : List UInt8) : Lib.hasPrefix (a :: x) (b :: y) = (b == a && Lib.hasPrefix x y) := rfl
theorem pre_nil (y : List UInt8) (b : UInt8) : Lib.hasPrefix [] (b :: y) = false := rfl

theorem find_congr' {α : Type} {p q : α → Bool} : ∀ {l : List α}, (∀ x ∈ l, p x = q x) → l.find? p = l.find? q
  | [], _ => rfl
  | a :: l, h => by
    rw [List.find?_cons, List.find?_cons, h a (List.mem_cons_self ..), find_congr' fun x hx => h x (List.mem_cons_of_mem _ hx)]

/-- a name without ';', then ';': that is what Cut cuts off -/
theorem pre_semi (t n : List UInt8) (hn : (59 : UInt8) ∉ n) : Lib.hasPrefix t (n ++ [59]) = ((Lib.cut t [59]).2.2 && n == (Lib.cut t [59]).1) := by
  unfold Lib.cut
  rcases Lib.index_spec t [59] with ⟨h1, h2⟩ | ⟨i, h1, h2, h3, h4⟩
  · rw [h1, if_neg (by omega)]
    simp only [Bool.false_and]
    cases e : Lib.hasPrefix t (n ++ [59]) with
    | false => rfl
    | true =>
      obtain ⟨r, rfl⟩ := List.isPrefixOf_iff_prefix.1 e
      have := h2 n.length (by simp)
      simp [Lib.occAt] at this
  · rw [h1, if_pos (by omega)]
    simp only [Bool.true_and, Int.toNat_natCast]
    rw [Bool.eq_iff_iff, beq_iff_eq]
    constructor
    · intro e
      obtain ⟨r, rfl⟩ := List.isPrefixOf_iff_prefix.1 e
      have hi : i = n.length := by
        rcases Nat.lt_trichotomy i n.length with h | h | h
        · have := Lib.occAt_head rfl h3
          rw [List.append_assoc, List.getElem?_append_left h] at this
          exact absurd (List.mem_of_getElem? this) hn
        · exact h
        · have := h4 n.length h
          simp [Lib.occAt] at this
      rw [hi, List.append_assoc, List.take_left']
      rfl
    · intro e
      have := Lib.occAt_head rfl h3
      rw [e]
      refine List.isPrefixOf_iff_prefix.2 ⟨t.drop (i + 1), ?_⟩
      have hi : i < t.length := (List.getElem?_eq_some_iff.1 this).1
      have hg : t[i] = 59 := (List.getElem?_eq_some_iff.1 this).2
      rw [List.append_assoc, List.singleton_append, ← hg, ← List.drop_eq_getElem_cons hi, List.take_append_drop]

theorem tabs_alike (n : List UInt8) : tabR.find? (fun p => p.1 == n) = tabE.find? (fun p => p.1 == n) := by
  have h1 : ∀ p ∈ tabE, tabR.find? (fun q => q.1 == p.1) = some p := by decide +kernel
  have h2 : ∀ p ∈ tabR, tabE.find? (fun q => q.1 == p.1) = some p := by decide +kernel
  cases e : tabE.find? (fun p => p.1 == n) with
  | some p =>
    have hp := List.mem_of_find?_eq_some e
    have he := List.find?_some e
    simp only [beq_iff_eq] at he
    rw [← he]
    exact h1 p hp
  | none =>
    cases e' : tabR.find? (fun p => p.1 == n) with
    | none => rfl
    | some p =>
      have hp := List.mem_of_find?_eq_some e'
      have he := List.find?_some e'
      simp only [beq_iff_eq] at he
      have := h2 p hp
      rw [he, e] at this
      cases this

theorem nameR (t : List UInt8) : tabR.find? (fun p => Lib.hasPrefix (38 :: t) (38 :: p.1 ++ [59])) = if (Lib.cut t [59]).2.2 then tabE.find? (fun p => p.1 == (Lib.cut t [59]).1) else none := by
  have hs : ∀ p ∈ tabR, (59 : UInt8) ∉ p.1 := by decide +kernel
  rw [find_congr' (q := fun p => (Lib.cut t [59]).2.2 && p.1 == (Lib.cut t [59]).1)]
  · cases (Lib.cut t [59]).2.2 with
    | true => simp only [Bool.true_and, if_true]; exact tabs_alike _
    | false => simp
  · intro p hp
    rw [List.cons_append, pre_cons, pre_semi t p.1 (hs p hp)]
    rfl

theorem trim_of {t n : List UInt8} (h : Lib.hasPrefix t n = true) : Lib.trimPrefix t n = t.drop n.length := by
  unfold Lib.trimPrefix; rw [if_pos h]

theorem short_step (t n c : List UInt8) (r : List (List UInt8)) (R : List (List UInt8 × List UInt8)) (hc : (lookP n).getD [] = c)
    (h : shortP t r = match R.find? (fun p => Lib.hasPrefix (38 :: t) (38 :: p.1) && endsP ((38 :: t).drop (p.1.length + 1))) with
      | some p => (p.2, p.1.length + 1)
      | none => ([], 0)) :
    shortP t (n :: r) = match ((n, c) :: R).find? (fun p => Lib.hasPrefix (38 :: t) (38 :: p.1) && endsP ((38 :: t).drop (p.1.length + 1))) with
      | some p => (p.2, p.1.length + 1)
      | none => ([], 0) := by
  unfold shortP
  rw [List.find?_cons]
  simp only [pre_cons, beq_self_eq_true, Bool.true_and, List.drop_succ_cons]
  cases e : Lib.hasPrefix t n with
  | false =>
    simp only [Bool.false_and, Bool.false_eq_true, if_false]
    rw [h]
    simp only [pre_cons, beq_self_eq_true, Bool.true_and, List.drop_succ_cons]
  | true =>
    rw [trim_of e]
    cases e2 : endsP (t.drop n.length) with
    | true => simp only [Bool.true_and, if_true, hc]
    | false =>
      simp only [Bool.true_and, Bool.false_eq_true, if_false]
      rw [h]
      simp only [pre_cons, beq_self_eq_true, Bool.true_and, List.drop_succ_cons]

theorem shortR (t : List UInt8) : shortP t shorts = match (tabR.take 4).find? (fun p => Lib.hasPrefix (38 :: t) (38 :: p.1) && endsP ((38 :: t).drop (p.1.length + 1))) with
      | some p => (p.2, p.1.length + 1)
      | none => ([], 0) := by
  refine short_step _ _ [38] _ [_, _, _] (by decide +kernel) ?_
  refine short_step _ _ [60] _ [_, _] (by decide +kernel) ?_
  refine short_step _ _ [62] _ [_] (by decide +kernel) ?_
  refine short_step _ _ [34] _ [] (by decide +kernel) ?_
  rfl

theorem next_eq (l : List UInt8) : nextE l = nextR l := by
  unfold nextE nextR
  cases e1 : (Lib.hasPrefix l [38, 35, 120] || Lib.hasPrefix l [38, 35, 88]) with
  | true => simp
  | false =>
    simp only [Bool.false_eq_true, if_false]
    cases e2 : Lib.hasPrefix l [38, 35] with
    | true => simp
    | false =>
      simp only [Bool.false_eq_true, if_false]
      cases l with
      | nil => simp [pre_nil]; rfl
      | cons a t =>
        by_cases ha : a = 38
        · subst ha
          have hp : Lib.hasPrefix (38 :: t) [38] = true := by simp [pre_cons]; rfl
          rw [hp, nameR]
          simp only [Bool.not_true, Bool.false_eq_true, if_false, List.drop_succ_cons, List.drop_zero]
          unfold nameP
          cases e3 : (Lib.cut t [59]).2.2 with
          | false =>
            simp only [Bool.false_eq_true, if_false, Option.getD_none]
            exact shortR t
          | true =>
            simp only [if_true, lookP]
            cases e4 : tabE.find? (fun p => p.1 == (Lib.cut t [59]).1) with
            | none =>
              simp only [Option.map_none, Option.getD_none]
              exact shortR t
            | some p =>
              have he := List.find?_some e4
              simp only [beq_iff_eq] at he
              simp only [Option.map_some, Option.getD_some, he]
        · have ha' : ((38 : UInt8) == a) = false := by simpa using fun h => ha h.symm
          have hp : Lib.hasPrefix (a :: t) [38] = false := by rw [pre_cons, ha', Bool.false_and]
          rw [hp]
          have f1 : tabR.find? (fun p => Lib.hasPrefix (a :: t) (38 :: p.1 ++ [59])) = none := by
            rw [List.find?_eq_none]; intro p _; rw [List.cons_append, pre_cons, ha', Bool.false_and]; simp
          have f2 : (tabR.take 4).find? (fun p => Lib.hasPrefix (a :: t) (38 :: p.1) && endsP ((a :: t).drop (p.1.length + 1))) = none := by
            rw [List.find?_eq_none]; intro p _; rw [pre_cons, ha', Bool.false_and]; simp
          rw [f1, f2]
          simp

/-! ### sizes -/
theorem numericP_le (l : List UInt8) (fr : Nat) {base : Int} (hb : base = 10 ∨ base = 16) (h : fr ≤ l.length) : (numericP l fr base).2 ≤ l.length := by
  have := run_range hb (l.drop fr) 0 fr (by omega) (by omega)
  rw [List.length_drop] at this
  unfold numericP
  split
  · exact Nat.zero_le _
  · simp only
    split
    · rename_i h2; have := (List.getElem?_eq_some_iff.1 h2).1; omega
    · omega
theorem numR_len (n : Int) : (numR n).length ≤ 4 := by
  unfold numR
  repeat' split
  all_goals simp
theorem numericP_len (l : List UInt8) (fr : Nat) (base : Int) : (numericP l fr base).1.length ≤ 4 := by
  unfold numericP
  split
  · simp
  · exact numR_len _
theorem pre_len {l p : List UInt8} (h : Lib.hasPrefix l p = true) : p.length ≤ l.length := (List.isPrefixOf_iff_prefix.1 h).length_le
theorem lookP_len {n c : List UInt8} (h : lookP n = some c) : c.length ≤ 4 := by
  have hs : ∀ p ∈ tabE, p.2.length ≤ 4 := by decide +kernel
  unfold lookP at h
  obtain ⟨p, hp, rfl⟩ := Option.map_eq_some_iff.1 h
  exact hs p (List.mem_of_find?_eq_some hp)
theorem shortP_le (t : List UInt8) : ∀ r : List (List UInt8), (shortP t r).2 ≤ t.length + 1 ∧ (shortP t r).1.length ≤ 4
  | [] => ⟨by unfold shortP; simp, by unfold shortP; simp⟩
  | n :: r => by
    unfold shortP
    split
    · rename_i h
      simp only [Bool.and_eq_true] at h
      have := pre_len h.1
      refine ⟨by simp; omega, ?_⟩
      cases e : lookP n with
      | none => simp
      | some c => exact lookP_len e
    · exact shortP_le t r
theorem nameP_le {t : List UInt8} {x : List UInt8 × Nat} (h : nameP t = some x) : x.2 ≤ t.length + 1 ∧ x.1.length ≤ 4 := by
  unfold nameP at h
  split at h
  · rename_i hc
    obtain ⟨c, hl, rfl⟩ := Option.map_eq_some_iff.1 h
    refine ⟨?_, lookP_len hl⟩
    unfold Lib.cut at hc ⊢
    rcases Lib.index_spec t [59] with ⟨h1, h2⟩ | ⟨i, h1, h2, h3, h4⟩
    · rw [h1, if_neg (by omega)] at hc; cases hc
    · rw [h1, if_pos (by omega)]
      have := (List.getElem?_eq_some_iff.1 (Lib.occAt_head rfl h3)).1
      simp
      omega
  · cases h
theorem nextE_le (l : List UInt8) : (nextE l).2 ≤ l.length ∧ (nextE l).1.length ≤ 4 := by
  unfold nextE
  split
  · rename_i h
    simp only [Bool.or_eq_true] at h
    refine ⟨numericP_le _ _ (Or.inr rfl) ?_, numericP_len _ _ _⟩
    rcases h with h | h <;> exact pre_len h
  · split
    · rename_i h
      exact ⟨numericP_le _ _ (Or.inl rfl) (pre_len h), numericP_len _ _ _⟩
    · split
      · simp
      · rename_i h
        simp only [Bool.not_eq_true, Bool.not_eq_false'] at h
        have h1 := pre_len h
        simp only [List.length_cons, List.length_nil] at h1
        cases e : nameP (l.drop 1) with
        | some x => have := nameP_le e; rw [List.length_drop] at this; simp only [Option.getD_some]; omega
        | none => have := shortP_le (l.drop 1) shorts; rw [List.length_drop] at this; simp only [Option.getD_none]; omega
theorem nextE_not {a : UInt8} (t : List UInt8) (h : a ≠ 38) : nextE (a :: t) = ([], 0) := by
  have ha' : ((38 : UInt8) == a) = false := by simpa using fun e => h e.symm
  unfold nextE
  simp only [pre_cons, ha', Bool.false_and, Bool.or_false, Bool.false_eq_true, if_false, Bool.not_false, if_true]

/-! ### Decode -/
def dec (l : List UInt8) : List UInt8 :=
  match l with
  | [] => []
  | c :: t => if (nextE (c :: t)).2 = 0 then c :: dec t else (nextE (c :: t)).1 ++ dec ((c :: t).drop (nextE (c :: t)).2)
termination_by l.length
decreasing_by
  · simp
  · simp only [List.length_drop, List.length_cons]; omega
theorem dec_nil : dec [] = [] := by rw [dec]
theorem dec_zero {c : UInt8} {t : List UInt8} (h : (nextE (c :: t)).2 = 0) : dec (c :: t) = c :: dec t := by rw [dec, if_pos h]
theorem dec_some {l : List UInt8} (h : (nextE l).2 ≠ 0) : dec l = (nextE l).1 ++ dec (l.drop (nextE l).2) := by
  cases l with
  | nil => exact absurd (Nat.le_zero.1 (nextE_le []).1) h
  | cons c t => rw [dec, if_neg h]
theorem dec_not {a : UInt8} (t : List UInt8) (h : a ≠ 38) : dec (a :: t) = a :: dec t := dec_zero (by rw [nextE_not t h])
/-- up to the first '&' nothing changes -/
theorem dec_index : ∀ l : List UInt8, (Lib.indexByte l 38 = -1 ∧ dec l = l) ∨ (∃ i : Nat, Lib.indexByte l 38 = i ∧ i < l.length ∧ l[i]? = some 38 ∧ (∀ j : Nat, j < i → l[j]? ≠ some 38) ∧ dec l = l.take i ++ dec (l.drop i))
  | [] => Or.inl ⟨rfl, dec_nil⟩
  | a :: t => by
    by_cases h : a = 38
    · subst h
      exact Or.inr ⟨0, rfl, by simp, rfl, fun j hj => by omega, by simp⟩
    · have hb : (a == (38 : UInt8)) = false := by simpa using h
      rcases dec_index t with ⟨h1, h2⟩ | ⟨i, h1, h2, h3, h4, h5⟩
      · refine Or.inl ⟨?_, by rw [dec_not t h, h2]⟩
        unfold Lib.indexByte; rw [hb, h1]; rfl
      · refine Or.inr ⟨i + 1, ?_, by simpa using h2, by simpa using h3, fun j hj => ?_, ?_⟩
        · unfold Lib.indexByte
          have : ((i : Int) == -1) = false := by rw [beq_eq_false_iff_ne]; omega
          rw [hb, h1, this]; simp
        · cases j with
          | zero => simpa using h
          | succ j => simpa using h4 j (by omega)
        · rw [dec_not t h, h5]; simp
end Go.Proofs.YtefijebbndnnjaaDoor.W
