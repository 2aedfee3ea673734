/- ArenaKinds, the plain law: three arenas with the same slots. -/
import Derived.Test.YtabmmampgmcibaaArS
import Derived.Test.YtabmmampgmcibaaArP
import Derived.Test.YtabmmampgmcibaaFreshA
namespace Go.Proofs.Ytabmmampgmcibaa.W
open Go.RowKit
set_option linter.unusedVariables false

theorem fm_range (pre : List Ob) : ∀ (l : List Ob) (pre2 : List Ob), (List.range' (pre.length + pre2.length) l.length).filterMap (fun i => (pre ++ (pre2 ++ l))[i]?) = l := by
  intro l
  induction l with
  | nil => intro pre2; simp
  | cons x l ih =>
    intro pre2
    rw [List.length_cons, List.range'_succ, List.filterMap_cons]
    have e : (pre ++ (pre2 ++ x :: l))[pre.length + pre2.length]? = some x := by
      rw [List.getElem?_append_right (by omega), List.getElem?_append_right (by omega)]
      simp [Nat.add_sub_cancel_left]
    rw [e]
    have := ih (pre2 ++ [x])
    simp only [List.append_assoc, List.cons_append, List.nil_append, List.length_append, List.length_cons, List.length_nil, Nat.zero_add] at this
    simp only [Nat.add_assoc] at this ⊢
    rw [this]
/-- the first objects in another order, the others kept -/
theorem All.selp {B : Nat} {w0 w : World} (pre : List Ob) {l : List Ob} (h : All B w0 (pre ++ l) w) (ix : List Nat) (hn : ix.Nodup) (m : Nat) (hm : pre.length = m) (hl' : ∀ i ∈ ix, i < m) : All B w0 (ix.filterMap (fun i => pre[i]?) ++ l) w := by
  have hl : ∀ i ∈ ix, i < pre.length := by rw [hm]; exact hl'
  have h1 := h.sel (ix ++ List.range' pre.length l.length) (by
    rw [List.nodup_append]
    refine ⟨hn, List.nodup_range', ?_⟩
    rintro a ha b hb rfl
    have := hl a ha
    rw [List.mem_range'_1] at hb
    omega)
  rw [List.filterMap_append] at h1
  have e1 : (List.range' pre.length l.length).filterMap (fun i => (pre ++ l)[i]?) = l := by
    have := fm_range pre l []
    simpa using this
  have e2 : ix.filterMap (fun i => (pre ++ l)[i]?) = ix.filterMap (fun i => pre[i]?) := by
    clear hn h1 hl'
    induction ix with
    | nil => rfl
    | cons i ix ih =>
      rw [List.filterMap_cons, List.filterMap_cons, List.getElem?_append_left (hl i (by simp)), ih (fun j hj => hl j (by simp [hj]))]
  rw [e1, e2] at h1
  exact h1

variable {α : Type}
/-- n records, of which some were dropped -/
def fX (b s : Int) (f : Nat → α) (z : α) (n : Nat) (D : Nat → Bool) (free : List Nat) (live : Int) : Ar α := ⟨b, s, (List.range n).map fun j => if D j then (false, z) else (true, f j), free, live⟩
theorem fX_len (b s : Int) (f : Nat → α) (z : α) (n : Nat) (D : Nat → Bool) (free : List Nat) (live : Int) : (fX b s f z n D free live).slots.length = n := by simp [fX]
theorem fX_get (b s : Int) (f : Nat → α) (z : α) (n : Nat) (D : Nat → Bool) (free : List Nat) (live : Int) (j : Nat) (hj : j < n) : (fX b s f z n D free live).slots[j]? = some (if D j then (false, z) else (true, f j)) := by simp [fX, hj]
theorem fX_look (b s : Int) (f : Nat → α) (z : α) (n : Nat) (D : Nat → Bool) (free : List Nat) (live : Int) (j : Nat) (hj : j < n) (hn : n ≤ 1000) : (fX b s f z n D free live).look (hdl b s (j : Nat)) = if D j then none else some j := by
  have h := fX_get b s f z n D free live j hj
  have hi : idx (fX b s f z n D free live).b (fX b s f z n D free live).s (hdl b s (j : Nat)) = (j : Int) := idx_hdl b s j (by omega) (by omega)
  cases hd : D j with
  | true => rw [hd] at h; exact look_no hi h
  | false => rw [hd] at h; exact look_of hi h
theorem fX_has (b s : Int) (f : Nat → α) (z : α) (n : Nat) (D : Nat → Bool) (free : List Nat) (live : Int) (j : Nat) (hj : j < n) (hn : n ≤ 1000) : (fX b s f z n D free live).has (hdl b s (j : Nat)) = !D j := by
  have h := fX_look b s f z n D free live j hj hn
  cases hd : D j with
  | true => rw [hd] at h; exact has_none h
  | false => rw [hd] at h; exact has_some h
theorem fX_getv (b s : Int) (f : Nat → α) (z : α) (n : Nat) (D : Nat → Bool) (free : List Nat) (live : Int) (j : Nat) (hj : j < n) (hn : n ≤ 1000) : (fX b s f z n D free live).get (hdl b s (j : Nat)) = if D j then none else some (f j) := by
  have h := fX_look b s f z n D free live j hj hn
  have hg := fX_get b s f z n D free live j hj
  cases hd : D j with
  | true => rw [hd] at h; exact get_eq_none h
  | false => rw [hd] at h hg; exact get_eq_some h hg
def dropD (D : Nat → Bool) (j : Nat) : Nat → Bool := fun x => if x = j then true else D x
theorem fX_drop (b s : Int) (f : Nat → α) (z : α) (n : Nat) (D : Nat → Bool) (free : List Nat) (live : Int) (j : Nat) (hj : j < n) (hn : n ≤ 1000) :
    (fX b s f z n D free live).drop z (hdl b s (j : Nat)) = fX b s f z n (if D j then D else dropD D j) (if D j then free else free ++ [j]) (if D j then live else live - 1) := by
  have h := fX_look b s f z n D free live j hj hn
  cases hd : D j with
  | true => rw [hd] at h; rw [drop_eq_none h]; rfl
  | false =>
    rw [hd] at h
    rw [drop_eq_some h]
    unfold Ar.gone fX
    simp only [Ar.mk.injEq, true_and, Bool.false_eq_true, if_false, and_true]
    apply List.ext_getElem?
    intro x
    rw [List.getElem?_set]
    by_cases hx : x < n
    · by_cases e : j = x
      · subst e; simp [hx, dropD]
      · rw [if_neg e]
        simp only [List.getElem?_map, List.getElem?_range hx, Option.map_some, dropD, if_neg (Ne.symm e)]
    · simp [hx]; omega
def fN (b s : Int) (f : Nat → α) (z : α) (i : Nat) : Ar α := fX b s f z i (fun _ => false) [] i
theorem fN_eq (b s : Int) (f : Nat → α) (z : α) (i : Nat) : fN b s f z i = ⟨b, s, (List.range i).map fun j => (true, f j), [], i⟩ := by simp [fN, fX]
theorem fN_succ (b s : Int) (f : Nat → α) (z : α) (i : Nat) : (⟨b, s, ((List.range i).map fun j => (true, f j)) ++ [(true, f i)], [], (i : Int) + 1⟩ : Ar α) = fN b s f z (i + 1) := by
  rw [fN_eq, List.range_succ]
  simp
theorem fN_good (b s : Int) (f : Nat → α) (z : α) (i : Nat) : Good (fN b s f z i) := by
  rw [fN_eq]
  refine ⟨by simp, by simp, ?_, ?_⟩
  · simp [List.countP_map, Function.comp_def]
  · simp [List.countP_map, Function.comp_def]

theorem addS {B : Nat} {w0 w : World} {g : Nat} {b s : Int} {f : Nat → ByteArray} {i : Nat} {sv fv : Value} {l : List Ob} (h : All B w0 (arS g (fN b s f ⟨#[]⟩ i) sv fv ++ l) w) (hi : i ≤ 1000) :
    Calls Try.prog 24 #[.pointer (some ⟨g, 0, none⟩), .string (f i)] w fun e w' => ∃ sv', e = .returned (.int .i64 (hdl b s (i : Nat))) ∧ All B w0 (arS g (fN b s f ⟨#[]⟩ (i + 1)) sv' fv ++ l) w' := by
  rw [fN_eq] at h
  refine (addS_grow h (f i) (by simp; omega) (by omega) (by omega)).mono ?_
  rintro e w' ⟨sv', rfl, hA⟩
  rw [fN_succ] at hA
  exact ⟨sv', by simp, hA⟩
theorem addP {B : Nat} {w0 w : World} {g : Nat} {b s : Int} {f : Nat → (ByteArray × Int)} {i : Nat} {sv fv : Value} {l : List Ob} (h : All B w0 (arP g (fN b s f (⟨#[]⟩, 0) i) sv fv ++ l) w) (hi : i ≤ 1000) :
    Calls Try.prog 25 #[.pointer (some ⟨g, 0, none⟩), .agg #[.string (f i).1, .int .i64 (f i).2]] w fun e w' => ∃ sv', e = .returned (.int .i64 (hdl b s (i : Nat))) ∧ All B w0 (arP g (fN b s f (⟨#[]⟩, 0) (i + 1)) sv' fv ++ l) w' := by
  rw [fN_eq] at h
  refine (addP_grow h (f i) (by simp; omega) (by omega) (by omega)).mono ?_
  rintro e w' ⟨sv', rfl, hA⟩
  rw [fN_succ] at hA
  exact ⟨sv', by simp, hA⟩
theorem addI {B : Nat} {w0 w : World} {g : Nat} {b s : Int} {i : Nat} {sv fv : Value} {l : List Ob} (h : All B w0 (arI g (fN b s (fun j => (j : Int)) 0 i) sv fv :: l) w) (hi : i ≤ 1000) :
    Calls Try.prog 19 #[.pointer (some ⟨g, 0, none⟩), .int .i64 (i : Int)] w (DidAll (.int .i64 (hdl b s (i : Nat))) B w0 [] g (fN b s (fun j => (j : Int)) 0 (i + 1)) l) := by
  have := add_all [] h (i : Int) ((fN_good b s (fun j => (j : Int)) 0 i).fit (by rw [fN, fX_len]; omega))
  have e1 : (fN b s (fun j => (j : Int)) 0 i).nextSlot = i := by rw [fN_eq]; simp [Ar.nextSlot]
  have e2 : (fN b s (fun j => (j : Int)) 0 i).add (i : Int) = fN b s (fun j => (j : Int)) 0 (i + 1) := by rw [← fN_succ, fN_eq]; simp [Ar.add]
  rw [e1, e2] at this
  exact this

/-- the three arenas and the handles -/
abbrev kdL (g1 g2 g3 : Nat) (b s : Int) (f : Nat → ByteArray) (n : Nat) (D : Nat → Bool) (free : List Nat) (live : Int) (v1 v2 v3 v4 v5 v6 : Value) : List Ob :=
  arI g1 (fX b s (fun j => (j : Int)) 0 n D free live) v1 v2 :: (arS g2 (fX b s f ⟨#[]⟩ n D free live) v3 v4 ++ arP g3 (fX b s (fun j => (f j, (j : Int))) (⟨#[]⟩, 0) n D free live) v5 v6)
theorem new_arI {B : Nat} {w0 w : World} {g : Nat} {b s : Int} {l : List Ob} (h : All B w0 (bk g [.int .i64 b, .int .i64 s, .slice none 0 0, .slice none 0 0, .int .i64 0] 32 :: l) w) : All B w0 (arI g (newAr b s) (.slice none 0 0) (.slice none 0 0) :: l) w := by
  refine h.step [] (o' := arI g (newAr b s) (.slice none 0 0) (.slice none 0 0)) ?_ (Chg.refl _ _) ?_
  · exact ⟨h.head, World.ownsRow_nil _ _ _ _, World.ownsRow_nil _ _ _ _, by simp [Value.ownBlock], by simp [Value.ownBlock], by simp [Value.ownBlock]⟩
  · rintro k (h | h | h)
    · exact .inl h
    · simp [Value.ownBlock] at h
    · simp [Value.ownBlock] at h
theorem kd_new {B : Nat} {w0 w : World} {g1 g2 g3 : Nat} {b s : Int} (f : Nat → ByteArray) {l : List Ob}
    (h : All B w0 (bk g1 [.int .i64 b, .int .i64 s, .slice none 0 0, .slice none 0 0, .int .i64 0] 32 :: bk g2 [.int .i64 b, .int .i64 s, .slice none 0 0, .slice none 0 0, .int .i64 0] 41 :: bk g3 [.int .i64 b, .int .i64 s, .slice none 0 0, .slice none 0 0, .int .i64 0] 45 :: l) w) :
    All B w0 (kdL g1 g2 g3 b s f 0 (fun _ => false) [] 0 (.slice none 0 0) (.slice none 0 0) (.slice none 0 0) (.slice none 0 0) (.slice none 0 0) (.slice none 0 0) ++ (gl (.slice none 0 0) [] :: l)) w := by
  have h1 := (((((h.nil 3 1).nil 95 2).nil 3 1).nil 98 3).nil 3 1)
  have h2 := All.selp [_, _, _, _, _, _, _, _] h1 [5, 6, 3, 4, 7, 1, 2, 0] (by decide) 8 rfl (by decide)
  exact new_arI h2
end Go.Proofs.Ytabmmampgmcibaa.W
