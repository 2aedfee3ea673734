/- The reference's table, what begins reports, and Lookup of the reference. -/
import Derived.Test.YtefijebbndnnjaaDoorNextN
import Derived.Test.YtefijebbndnnjaaDoorDecP
set_option linter.unusedVariables false
set_option linter.unusedSimpArgs false
namespace Go.Proofs.YtefijebbndnnjaaDoor.W
open Go.RowKit

/-- the reference's table in memory -/
structure TabAt (b : Nat) (w : World) : Prop where
  cell : ∀ i x, tabR[i]? = some x → w.cell? ⟨b, 2 * i, none⟩ = some (.string ⟨x.1.toArray⟩) ∧ w.cell? ⟨b, 2 * i + 1, none⟩ = some (.string ⟨x.2.toArray⟩)
theorem TabAt.below {b : Nat} {w w' : World} (h : TabAt b w) (hb : Below w.heap.size w w') : TabAt b w' :=
  ⟨fun i x hx => ⟨cell_keep hb (h.cell i x hx).1, cell_keep hb (h.cell i x hx).2⟩⟩
def tabCells : List Value := tabR.flatMap fun x => [Value.string ⟨x.1.toArray⟩, Value.string ⟨x.2.toArray⟩]
theorem tabCells_at : ∀ i : Fin 30, tabCells[2 * i.val]? = (tabR[i.val]?).map (fun x => Value.string ⟨x.1.toArray⟩) ∧ tabCells[2 * i.val + 1]? = (tabR[i.val]?).map (fun x => Value.string ⟨x.2.toArray⟩) := by
  intro i
  match i with
  | ⟨i, hi⟩ =>
    iterate 30 (cases i with | zero => exact ⟨rfl, rfl⟩ | succ i => ?_)
    omega
theorem tabAt_new (w : World) (t : TypeId) : TabAt w.heap.size (w.alloc (.cells tabCells.toArray t)) := by
  refine ⟨fun i x hx => ?_⟩
  have hi : i < 30 := (List.getElem?_eq_some_iff.1 hx).1
  have h := tabCells_at ⟨i, hi⟩
  rw [hx] at h
  rw [Go.Joins.cell_alloc_mark_at _ _ _ _ _ _ rfl, Go.Joins.cell_alloc_mark_at _ _ _ _ _ _ rfl]
  simpa using h

set_option maxRecDepth 100000 in
set_option maxHeartbeats 4000000 in
theorem table_any (w : World) :
    Calls Tryd.prog 31 #[] w fun e w' => e = .returned (.slice (some ⟨w.heap.size, 0, none⟩) 30 30) ∧ TabAt w.heap.size w' ∧ Below w.heap.size w w' := by
  go_enter Tryd.func31, Tryd.ntmps31
  go_wp2_with fail
  go_ret
  exact ⟨rfl, tabAt_new _ _, (Below.refl _ _).alloc (Nat.le_refl _) _⟩

set_option maxRecDepth 100000 in
set_option maxHeartbeats 4000000 in
theorem begins_any (s p : ByteArray) (w : World) (hs : s.size ≤ 1000000) (hp : p.size ≤ 1000000) :
    Calls Tryd.prog 29 #[.string s, .string p] w fun e w' => e = .returned (.bool (Lib.hasPrefix s.data.toList p.data.toList)) ∧ w' = w := by
  have key := Lib.hasPrefix_of_take s.data.toList p.data.toList
  rw [← Lib.size_eq, ← Lib.size_eq] at key
  rw [← key]
  clear key
  by_cases h : p.size ≤ s.size
  · rw [decide_eq_true h, Bool.true_and]
    go_enter Tryd.func29, Tryd.ntmps29
    go_wp2_with fail
    go_ret
    exact ⟨by rw [show (s.extract 0 p.size).toList = s.data.toList.take p.size by rw [Lib.extract_toList]; rfl, ByteArray.toList_eq]; rfl, rfl⟩
  · rw [decide_eq_false h, Bool.false_and]
    go_enter Tryd.func29, Tryd.ntmps29
    go_wp2_with fail
    go_ret
    exact ⟨rfl, rfl⟩

theorem begins_is (s p : ByteArray) (q : List UInt8) (b : Bool) (hs : s.size ≤ 1000000) (hp : p.size ≤ 1000000) (hq : p.data.toList = q) (h : Lib.hasPrefix s.data.toList q = b) (w : World) :
    Calls Tryd.prog 29 #[.string s, .string p] w fun e w' => e = .returned (.bool b) ∧ w' = w := by
  rw [← h, ← hq]; exact begins_any s p w hs hp

/-- the reference's Lookup -/
def LkRR (w : World) (b : Nat) (s : List UInt8) (iv : Value) (wr : World) : Prop :=
  ∃ i : Nat, i ≤ 30 ∧ iv = .int .i64 (i : Int) ∧ tabR.find? (fun p => p.1 == s) = (tabR.drop i).find? (fun p => p.1 == s) ∧ TabAt b wr ∧ Below w.heap.size w wr
theorem find_drop {q : List UInt8 × List UInt8 → Bool} {i : Nat} {x : List UInt8 × List UInt8} (hx : tabR[i]? = some x) : (tabR.drop i).find? q = if q x then some x else (tabR.drop (i + 1)).find? q := by
  obtain ⟨h1, h2⟩ := List.getElem?_eq_some_iff.1 hx
  rw [List.drop_eq_getElem_cons h1, h2, List.find?_cons]
  cases q x <;> rfl

set_option maxRecDepth 100000 in
set_option maxHeartbeats 4000000 in
theorem lookupR_any (s : ByteArray) (w : World) :
    Calls Tryd.prog 19 #[.string s] w fun e w' => e = .returned (.string ⟨((lookP s.data.toList).getD []).toArray⟩) ∧ Below w.heap.size w w' := by
  have hlk : lookP s.data.toList = (tabR.find? (fun p => p.1 == s.data.toList)).map (·.2) := by rw [tabs_alike]; rfl
  rw [hlk]
  have HT := Lib.hid (table_any w)
  go_enter Tryd.func19, Tryd.ntmps19
  go_wp2_with fail
  refine HT.out.mono ?_
  rintro e w1 ⟨rfl, ht, hb1⟩
  go_wp2_with fail
  go_loopw [4] (fun iv wr => LkRR w w.heap.size s.data.toList iv wr) (fun iv _ => 30 - (intOf iv).toNat)
  case atStart => exact ⟨0, by omega, rfl, rfl, ht, hb1⟩
  case round =>
    obtain ⟨i, hi, rfl, hf, hT, hB⟩ := hrel
    have HF := Lib.hid hf
    have HB := Lib.hid hT
    clear hf ht
    by_cases hlt : i < 30
    · obtain ⟨x, hx⟩ : ∃ x, tabR[i]? = some x := ⟨_, List.getElem?_eq_getElem (by have e : tabR.length = 30 := rfl; omega)⟩
      have g0 : wr.cell? ⟨w.heap.size, i * 2, none⟩ = some (.string ⟨x.1.toArray⟩) := by rw [Nat.mul_comm]; exact (hT.cell i x hx).1
      have g1 : wr.cell? ⟨w.heap.size, i * 2 + 1, none⟩ = some (.string ⟨x.2.toArray⟩) := by rw [Nat.mul_comm]; exact (hT.cell i x hx).2
      have hfd := find_drop (q := fun p => p.1 == s.data.toList) hx
      clear hx hT
      cases he : x.1 == s.data.toList with
      | true =>
        have HN := Lib.hid (HF.out.trans (hfd.trans (if_pos he)))
        have he' : (x.1 == s.toList) = true := by rw [ByteArray.toList_eq]; exact he
        clear hfd he
        go_wp2_with fail
        go_ret
        exact ⟨by rw [HN.out]; rfl, hB⟩
      | false =>
        have HN := Lib.hid (HF.out.trans (hfd.trans (if_neg (by rw [he]; exact Bool.false_ne_true))))
        have he' : (x.1 == s.toList) = false := by rw [ByteArray.toList_eq]; exact he
        clear hfd he
        go_wp2_with fail
        exact ⟨⟨i + 1, by omega, by go_num, HN.out, HB.out, hB⟩, by simp [intOf]; omega⟩
    · obtain rfl : i = 30 := by omega
      have HN := Lib.hid (HF.out.trans (show (tabR.drop 30).find? (fun p => p.1 == s.data.toList) = none from rfl))
      go_wp2_with fail
      go_ret
      exact ⟨by rw [HN.out]; rfl, hB⟩
end Go.Proofs.YtefijebbndnnjaaDoor.W
