/- Escape, plain: what the replacer makes of a text, and that Decode undoes it. -/
import Derived.Test.YtefijebbndnnjaaDoorLawP
set_option linter.unusedVariables false
set_option linter.unusedSimpArgs false
namespace Go.Proofs.YtefijebbndnnjaaDoor.W

def esc1 (T : UInt8 → Option (List UInt8)) (c : UInt8) : List UInt8 := match T c with | none => [c] | some bs => bs
def escL (T : UInt8 → Option (List UInt8)) (l : List UInt8) : List UInt8 := l.flatMap (esc1 T)
/-- a replacement's length less one -/
def gain (T : UInt8 → Option (List UInt8)) (c : UInt8) : Nat := (esc1 T c).length - 1
/-- how much longer the text gets, reckoned by the keys -/
def gains (T : UInt8 → Option (List UInt8)) : List UInt8 → List UInt8 → Nat
  | [], _ => 0
  | k :: ks, l => l.count k * gain T k + gains T ks l
theorem gains_nil (T : UInt8 → Option (List UInt8)) : ∀ ks : List UInt8, gains T ks [] = 0
  | [] => rfl
  | k :: ks => by simp [gains, gains_nil T ks]
/-- what is known of a table and its keys -/
structure Tbl (ks : List UInt8) (T : UInt8 → Option (List UInt8)) : Prop where
  nodup : ks.Nodup
  mem : ∀ c, c ∈ ks ↔ (T c).isSome = true
  two : ∀ c bs, T c = some bs → 2 ≤ bs.length ∧ bs.length ≤ 10

theorem esc1_pos {ks T} (h : Tbl ks T) (c : UInt8) : 1 ≤ (esc1 T c).length ∧ (esc1 T c).length ≤ 10 := by
  unfold esc1
  cases e : T c with
  | none => simp
  | some bs => have := h.two c bs e; simp; omega
theorem gain_zero {ks T} (h : Tbl ks T) {c : UInt8} (hc : c ∉ ks) : gain T c = 0 := by
  have : T c = none := by
    cases e : T c with
    | none => rfl
    | some bs => exact absurd ((h.mem c).2 (by rw [e]; rfl)) hc
  unfold gain esc1; rw [this]; rfl
theorem gains_cons (T : UInt8 → Option (List UInt8)) (c : UInt8) (t : List UInt8) : ∀ ks : List UInt8, ks.Nodup → gains T ks (c :: t) = gains T ks t + if c ∈ ks then gain T c else 0
  | [], _ => by simp [gains]
  | k :: ks, h => by
    rw [List.nodup_cons] at h
    have ih := gains_cons T c t ks h.2
    simp only [gains, ih, List.count_cons]
    by_cases hck : c = k
    · subst hck
      simp only [beq_self_eq_true, if_true, List.mem_cons, true_or, h.1, if_false, Nat.add_zero, Nat.add_mul, Nat.one_mul]
      omega
    · have hb : (c == k) = false := by simpa using hck
      simp only [hb, Bool.false_eq_true, if_false, Nat.add_zero, List.mem_cons, hck, false_or]
      omega
theorem escL_length {ks T} (h : Tbl ks T) : ∀ l, (escL T l).length = l.length + gains T ks l
  | [] => by
    simp [escL, gains_nil]
  | c :: t => by
    have ih := escL_length h t
    have hp := (esc1_pos h c).1
    rw [gains_cons T c t ks h.nodup]
    unfold escL at ih ⊢
    rw [List.flatMap_cons, List.length_append, ih, List.length_cons]
    by_cases hc : c ∈ ks
    · rw [if_pos hc]; unfold gain; omega
    · rw [if_neg hc]
      have := gain_zero h hc
      unfold gain at this; omega
theorem escL_le {ks T} (h : Tbl ks T) : ∀ l, (escL T l).length ≤ 10 * l.length
  | [] => by simp [escL]
  | c :: t => by
    have ih := escL_le h t
    have := (esc1_pos h c).2
    unfold escL at ih ⊢
    rw [List.flatMap_cons, List.length_append, List.length_cons]; omega
theorem escL_same {T : UInt8 → Option (List UInt8)} : ∀ l : List UInt8, (∀ c ∈ l, T c = none) → escL T l = l
  | [], _ => rfl
  | c :: t, h => by
    have ih := escL_same t (fun x hx => h x (by simp [hx]))
    unfold escL at ih ⊢
    rw [List.flatMap_cons, ih]
    unfold esc1; rw [h c (by simp)]; rfl
theorem escL_take {T : UInt8 → Option (List UInt8)} {l : List UInt8} {i : Nat} (hi : i < l.length) : escL T (l.take (i + 1)) = escL T (l.take i) ++ esc1 T l[i] := by
  unfold escL; rw [List.take_succ_eq_append_getElem hi, List.flatMap_append, List.flatMap_singleton]
theorem escL_take_le {T : UInt8 → Option (List UInt8)} (l : List UInt8) (i : Nat) : (escL T (l.take i)).length ≤ (escL T l).length := by
  have : escL T l = escL T (l.take i) ++ escL T (l.drop i) := by unfold escL; rw [← List.flatMap_append, List.take_append_drop]
  rw [this]; simp
/-- the keys that occur -/
theorem same_of_counts {ks T} (h : Tbl ks T) (l : List UInt8) (hc : ∀ k ∈ ks, l.count k = 0) : ∀ c ∈ l, T c = none := by
  intro c hl
  cases e : T c with
  | none => rfl
  | some bs =>
    have := hc c ((h.mem c).2 (by rw [e]; rfl))
    rw [List.count_eq_zero] at this
    exact absurd hl this

/-! ### the two tables -/
def lisT : List (UInt8 × List UInt8) := [(38, [38, 97, 109, 112, 59]), (60, [38, 108, 116, 59]), (62, [38, 103, 116, 59]), (13, [38, 35, 49, 51, 59])]
def lisA : List (UInt8 × List UInt8) := [(38, [38, 97, 109, 112, 59]), (34, [38, 113, 117, 111, 116, 59]), (13, [38, 35, 49, 51, 59])]

/-- a table whose texts are references that stand for their bytes -/
def Back (T : UInt8 → Option (List UInt8)) : Prop := T 38 ≠ none ∧ ∀ c bs, T c = some bs → ∀ r, nextE (bs ++ r) = ([c], bs.length) ∧ bs ≠ []
theorem dec_esc {T : UInt8 → Option (List UInt8)} (hb : Back T) (r : List UInt8) : ∀ l : List UInt8, dec (escL T l ++ r) = l ++ dec r
  | [] => rfl
  | c :: t => by
    have ih := dec_esc hb r t
    unfold escL at ih ⊢
    rw [List.flatMap_cons, List.append_assoc]
    cases e : T c with
    | none =>
      have hc : c ≠ 38 := fun h => hb.1 (h ▸ e)
      have e1 : esc1 T c = [c] := by unfold esc1; rw [e]
      rw [e1]
      show dec (c :: (t.flatMap (esc1 T) ++ r)) = _
      rw [dec_not _ hc, ih]; rfl
    | some bs =>
      have e1 : esc1 T c = bs := by unfold esc1; rw [e]
      obtain ⟨h1, h2⟩ := hb.2 c bs e (t.flatMap (esc1 T) ++ r)
      have hl : bs.length ≠ 0 := fun h => h2 (List.eq_nil_of_length_eq_zero h)
      rw [e1, dec_some (by rw [h1]; exact hl), h1, List.drop_left, ih]; rfl
end Go.Proofs.YtefijebbndnnjaaDoor.W
