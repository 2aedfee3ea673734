/- ArenaPlays: the reference's operations beside other objects. -/
import Derived.Test.YtabmmampgmcibaaModelC
import Derived.Test.YtabmmampgmcibaaSaltsA
namespace Go.Proofs.Ytabmmampgmcibaa.W
open Go.RowKit
set_option linter.unusedVariables false

theorem apart_get {l : List Ob} (h : l.Pairwise fun a b => ∀ k, a.F k → ¬ b.F k) {i j : Nat} {a b : Ob} (hij : i ≠ j) (ha : l[i]? = some a) (hb : l[j]? = some b) : ∀ k, a.F k → ¬ b.F k := by
  rw [List.pairwise_iff_getElem] at h
  obtain ⟨hi, rfl⟩ := List.getElem?_eq_some_iff.1 ha
  obtain ⟨hj, rfl⟩ := List.getElem?_eq_some_iff.1 hb
  rcases Nat.lt_or_gt_of_ne hij with hlt | hgt
  · exact h i j hi hj hlt
  · exact fun k h1 h2 => h j i hj hi hgt k h2 h1
/-- some of the objects, in another order -/
theorem All.sel {B : Nat} {w0 w : World} {l : List Ob} (h : All B w0 l w) (is : List Nat) (hn : is.Nodup) : All B w0 (is.filterMap fun i => l[i]?) w := by
  have hmem : ∀ o ∈ is.filterMap (fun i => l[i]?), o ∈ l := by
    intro o ho
    obtain ⟨i, _, hi⟩ := List.mem_filterMap.1 ho
    exact List.mem_of_getElem? hi
  refine ⟨fun o ho => h.P o (hmem o ho), ?_, fun o ho => h.base o (hmem o ho), h.below, h.le⟩
  clear hmem
  induction is with
  | nil => simp
  | cons i is ih =>
    rw [List.nodup_cons] at hn
    rw [List.filterMap_cons]
    split
    · exact ih hn.2
    · rename_i a ha
      rw [List.pairwise_cons]
      refine ⟨fun b hb => ?_, ih hn.2⟩
      obtain ⟨j, hj, hjb⟩ := List.mem_filterMap.1 hb
      exact apart_get h.apart (by rintro rfl; exact hn.1 hj) ha hjb

theorem mset_all {B : Nat} {w0 w : World} {l : List Ob} {A : Ar Int} {cv mv : Value} (h : All B w0 (csl cv A.slots :: l) w) (hf : ∃ fa fn fc, mv = .slice fa fn fc) (hd v : Int) (h1 : -9223372036854775808 ≤ hd) (h2 : hd ≤ 9223372036854775807) (hl : A.slots.length ≤ 1000000) :
    Calls Try.prog 36 #[mdV A.b A.s cv mv, .int .i64 hd, .int .i64 v] w fun e w' => ∃ cv', e = .returned (.tuple #[mdV A.b A.s cv' mv, .bool (A.has hd)]) ∧ All B w0 (csl cv' (A.setAt hd v).slots :: l) w' := by
  have ho : Own _ _ _ _ _ _ := h.head
  cases hk : A.look hd with
  | none =>
    rw [has_none hk, setAt_none hk]
    refine (mset_none ho hf hd v h1 h2 hl hk).mono ?_
    rintro e w' ⟨rfl, hb⟩
    exact ⟨cv, rfl, h.still hb⟩
  | some k =>
    rw [has_some hk, setAt_some hk]
    refine (mset_some ho hf hd v h1 h2 hl hk).mono ?_
    rintro e w' ⟨cv', rfl, hA⟩
    exact ⟨cv', rfl, (h.after hA).sub (List.Sublist.cons_cons _ (List.Sublist.cons _ (List.Sublist.refl _)))⟩
theorem mdrop_all {B : Nat} {w0 w : World} {l : List Ob} {A : Ar Int} {cv mv : Value} (h : All B w0 (fsl mv A.free :: csl cv A.slots :: l) w) (hd : Int) (h1 : -9223372036854775808 ≤ hd) (h2 : hd ≤ 9223372036854775807) (hl : A.slots.length ≤ 1000000) (hfl : A.free.length ≤ 1000000) :
    Calls Try.prog 38 #[mdV A.b A.s cv mv, .int .i64 hd] w fun e w' => ∃ cv' mv', e = .returned (.tuple #[mdV A.b A.s cv' mv', .bool (A.has hd)]) ∧ All B w0 (fsl mv' (A.drop 0 hd).free :: csl cv' (A.drop 0 hd).slots :: l) w' := by
  have hf : Own _ _ _ _ _ _ := h.head
  have ho : Own _ _ _ _ _ _ := h.tail.head
  cases hk : A.look hd with
  | none =>
    rw [has_none hk, drop_eq_none hk]
    obtain ⟨fa, fc, he⟩ := own_shape hf
    refine (mdrop_none ho ⟨_, _, _, he⟩ hd h1 h2 hl hk).mono ?_
    rintro e w' ⟨rfl, hb⟩
    exact ⟨cv, mv, rfl, h.still hb⟩
  | some k =>
    rw [has_some hk, drop_eq_some hk]
    refine (mdrop_some ho hf hd h1 h2 hl hfl hk).mono ?_
    rintro e w' ⟨cv', mv', rfl, hA⟩
    exact ⟨cv', mv', rfl, (h.after hA).sub (List.Sublist.cons_cons _ (List.Sublist.cons_cons _ (List.Sublist.cons _ (List.Sublist.cons _ (List.Sublist.refl _)))))⟩
theorem madd_all {B : Nat} {w0 w : World} {l : List Ob} {A : Ar Int} {cv mv : Value} (h : All B w0 (fsl mv A.free :: csl cv A.slots :: l) w) (v : Int) (hG : Good A) (hl : A.slots.length ≤ 1000000) :
    Calls Try.prog 35 #[mdV A.b A.s cv mv, .int .i64 v] w fun e w' => ∃ cv' mv', e = .returned (.tuple #[mdV A.b A.s cv' mv', .int .i64 (hdl A.b A.s (A.nextSlot : Nat))]) ∧ All B w0 (fsl mv' (A.add v).free :: csl cv' (A.add v).slots :: l) w' := by
  have hf : Own _ _ _ _ _ _ := h.head
  have ho : Own _ _ _ _ _ _ := h.tail.head
  have hcnt := hG.cnt
  by_cases hn : A.free = []
  · have e1 : A.nextSlot = A.slots.length := by unfold Ar.nextSlot; rw [if_pos hn]
    have e2 : A.add v = ⟨A.b, A.s, A.slots ++ [(true, v)], [], A.live + 1⟩ := by unfold Ar.add; rw [if_pos hn]
    rw [e1, e2]
    rw [hn] at hf
    refine (madd_grow (live := 0) ho hf v hl).mono ?_
    rintro e w' ⟨cv', mv', rfl, hA⟩
    exact ⟨cv', mv', rfl, (h.after hA).sub (List.Sublist.cons_cons _ (List.Sublist.cons_cons _ (List.Sublist.cons _ (List.Sublist.cons _ (List.Sublist.refl _)))))⟩
  · have e1 : A.nextSlot = A.free.getLastD 0 := by unfold Ar.nextSlot; rw [if_neg hn]
    have e2 : A.add v = ⟨A.b, A.s, A.slots.set (A.free.getLastD 0) (true, v), A.free.dropLast, A.live + 1⟩ := by unfold Ar.add; rw [if_neg hn]
    rw [e1, e2]
    refine (madd_used ho hf v hl (by omega) hn ?_).mono ?_
    · obtain ⟨v, hv⟩ := hG.free _ (last_mem hn)
      exact (List.getElem?_eq_some_iff.1 hv).1
    rintro e w' ⟨cv', mv', rfl, hA⟩
    exact ⟨cv', mv', rfl, (h.after hA).sub (List.Sublist.cons_cons _ (List.Sublist.cons_cons _ (List.Sublist.cons _ (List.Sublist.cons _ (List.Sublist.refl _)))))⟩

theorem opH_bd {raw : Bool} {v : Int} {pk : Nat} {xs : List Int} (hv : -32768 ≤ v ∧ v ≤ 32767) (hx : ∀ x ∈ xs, -9223372036854775808 ≤ x ∧ x ≤ 9223372036854775807) : -9223372036854775808 ≤ opH raw v pk xs ∧ opH raw v pk xs ≤ 9223372036854775807 := by
  unfold opH
  split
  · omega
  · rw [List.getD_eq_getElem?_getD]
    cases h : xs[pk % xs.length]? with
    | none => simp
    | some y => exact hx y (List.mem_of_getElem? h)
/-- what Get finds is what the reference's cell holds -/
theorem get_look {A : Ar Int} {h : Int} : (A.has h = false ∧ A.get h = none ∧ A.lookI h = -1) ∨ (A.has h = true ∧ ∃ k v, A.look h = some k ∧ A.lookI h = (k : Int) ∧ A.get h = some v ∧ A.slots[k]? = some (true, v)) := by
  cases hk : A.look h with
  | none => exact .inl ⟨has_none hk, get_eq_none hk, lookI_none hk⟩
  | some k =>
    obtain ⟨_, _, v, hv⟩ := look_some hk
    exact .inr ⟨has_some hk, k, v, rfl, lookI_some hk, get_eq_some hk hv, hv⟩

/-- all that the law holds -/
abbrev plL (g mb : Nat) (A : Ar Int) (sv fv cv mv gv : Value) (xs : List Int) : List Ob :=
  [fsl mv A.free, csl cv A.slots, gl gv xs, bk mb [.int .i64 A.b, .int .i64 A.s, cv, mv] 68, arI g A sv fv]
def PlI (w : World) (g mb n : Nat) (gv iv : Value) (wr : World) : Prop :=
  ∃ (i : Nat) (A : Ar Int) (sv fv cv mv : Value) (xs : List Int), i ≤ n ∧ iv = .int .i64 (i : Int) ∧ Good A ∧ A.slots.length ≤ i ∧ xs.length ≤ i ∧ (∀ x ∈ xs, -9223372036854775808 ≤ x ∧ x ≤ 9223372036854775807) ∧ All w.heap.size w (plL g mb A sv fv cv mv gv xs) wr
theorem setAt_free (A : Ar Int) (h : Int) (v : Int) : (A.setAt h v).free = A.free := by unfold Ar.setAt; split <;> rfl
theorem same_all {B : Nat} {w0 w : World} {g mb : Nat} {A : Ar Int} {b s : Int} {sv fv cv mv gv : Value} {xs : List Int} (h : All B w0 [fsl mv A.free, csl cv A.slots, gl gv xs, bk mb [.int .i64 b, .int .i64 s, cv, mv] 68, arI g A sv fv] w) (hb : A.b = b) (hs : A.s = s) (hG : Good A) (hl : A.slots.length ≤ 1000000) :
    Calls Try.prog 40 #[.pointer (some ⟨g, 0, none⟩), mdV b s cv mv] w fun e w' => e = .returned (.bool true) ∧ All B w0 (plL g mb A sv fv cv mv gv xs) w' := by
  subst hb hs
  refine (same_any h.tail.tail.tail.tail.head h.tail.head h.head hG hl).mono ?_
  rintro e w' ⟨rfl, hb⟩
  exact ⟨rfl, h.still hb⟩
def PlS (w : World) (l : List Ob) (wr : World) : Prop := All w.heap.size w l wr
theorem ops_cells {w wr : World} {ln lb lo i : Nat} {f : Nat → Int × Int × Bool × Int} {l : List Ob} (hl : InOps w (some ⟨lb, lo, none⟩) ln f) (hi : i < ln) (h : PlS w l wr) :
    wr.cell? ⟨lb, lo + i * 4, none⟩ = some (.int .u8 (f i).1) ∧ wr.cell? ⟨lb, lo + i * 4 + 1, none⟩ = some (.int .u8 (f i).2.1) ∧ wr.cell? ⟨lb, lo + i * 4 + 2, none⟩ = some (.bool (f i).2.2.1) ∧ wr.cell? ⟨lb, lo + i * 4 + 3, none⟩ = some (.int .i16 (f i).2.2.2) := by
  obtain ⟨lb', lo', he, _, hc⟩ := (hl.still h.below) (by omega)
  simp only [Option.some.injEq, Addr.mk.injEq, and_true] at he
  obtain ⟨rfl, rfl⟩ := he
  exact hc i hi
end Go.Proofs.Ytabmmampgmcibaa.W
