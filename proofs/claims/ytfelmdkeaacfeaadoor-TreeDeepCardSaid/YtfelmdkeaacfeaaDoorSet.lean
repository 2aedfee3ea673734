/- One field of a node written. -/
import Derived.Test.YtfelmdkeaacfeaaDoorMay
namespace Go.Proofs.YtfelmdkeaacfeaaDoor.W
open Go.RowKit
set_option linter.unusedVariables false
set_option linter.unusedSimpArgs false

theorem own_setB {w : World} {B e size g n cap : Nat} {xs : List Value} (h : w.ownsRow B e size (.slice (some ⟨g, 0, none⟩) n cap) n xs) (j : Nat) (u : Value) : (w.setCell ⟨g, j, none⟩ u).ownsRow B e size (.slice (some ⟨g, 0, none⟩) n cap) n (xs.set j u) := by
  have hB := (h.lt g rfl).1
  have h0 := own_set (own_low h (Nat.zero_le B)) j u
  refine ⟨h0.1, ?_⟩
  rcases h0.2 with ⟨e, _⟩ | ⟨g', cap', cur, e, _, rest⟩
  · cases e
  · cases e
    exact .inr ⟨g, cap, cur, rfl, hB, rest⟩
/-- the slot i replaced -/
def Tr.put (S : Tr) (i : Nat) (n : Nd) : Tr := { S with slots := S.slots.set i (some n) }
theorem live_put {S : Tr} {i : Nat} {n n' : Nd} (h : S.at i = some n) : (S.put i n').live = S.live := by
  have hs := at_slot h
  unfold Tr.live Tr.put
  simp only []
  generalize S.slots = l at hs ⊢
  clear h
  induction l generalizing i with
  | nil => simp at hs
  | cons x l ih =>
    cases i with
    | zero => simp at hs; subst hs; simp
    | succ i =>
      have := ih (by simpa using hs : l[i]? = some (some n))
      simp only [List.set_cons_succ, List.filter_cons]
      split <;> simp [this]

/-- the block of the slots is none of the others -/
theorem blk_ne {w : World} {g h : Nat} {cs cs' : Array Value} {t t' : TypeId} {f f' : Nat × Nat} (h1 : w.heap[g]? = some (.cells cs t f)) (h2 : w.heap[h]? = some (.cells cs' t' f')) (ht : t ≠ t') : g ≠ h := by
  rintro rfl
  rw [h1] at h2
  simp only [Option.some.injEq, Obj.cells.injEq] at h2
  exact ht h2.2.1

theorem TAt.setF {B R g cap : Nat} {S : Tr} {fv : Value} {w : World} (h : TAt B R S (.slice (some ⟨g, 0, none⟩) S.slots.length cap) fv w) {i : Nat} {n n' : Nd} (hi : S.at i = some n) (j : Nat) (u : Value) (hj : j < 9)
    (hn : ndC n' = (ndC n).set j u) (hav : n'.av = n.av) (hat : n'.attrs = n.attrs) :
    TAt B R (S.put i n') (.slice (some ⟨g, 0, none⟩) (S.put i n').slots.length cap) fv (w.setCell ⟨g, i * 10 + 1 + j, none⟩ u) := by
  have hlt := at_lt hi
  have hlen : (S.put i n').slots.length = S.slots.length := by unfold Tr.put; simp
  obtain ⟨cur, hg⟩ : ∃ cur, w.heap[g]? = some (.cells cur 68 (0, 0)) := by
    rcases h.slots.2 with ⟨e, _⟩ | ⟨g', cap', cur, e, _, hh, _⟩
    · cases e
    · cases e; exact ⟨cur, hh⟩
  have other : ∀ {k : Nat} {cs : Array Value} {t : TypeId}, w.heap[k]? = some (.cells cs t (0, 0)) → 68 ≠ t → (w.setCell ⟨g, i * 10 + 1 + j, none⟩ u).heap[k]? = w.heap[k]? := fun hk ht => Below.heap_setCell _ _ _ _ (fun e => blk_ne hg hk ht e.symm)
  rw [hlen]
  refine ⟨?_, ?_, ?_, ?_, h.base, by rw [hlen]; exact h.few⟩
  · have := h.blk.kept (other h.blk (by decide))
    rw [live_put hi]
    exact this
  · rw [hlen]
    have := own_setB h.slots (i * 10 + 1 + j) u
    have e : rowC (S.put i n').slots = (rowC S.slots).set (i * 10 + 1 + j) u := by
      have := rowC_set S.slots i (some n') hlt (1 + j) u (by omega) (some n) (at_slot hi) (by
        show Value.bool true :: ndC n' = (Value.bool true :: ndC n).set (1 + j) u
        rw [hn, Nat.add_comm 1 j]; rfl)
      rw [← Nat.add_assoc] at this
      exact this
    rw [e]
    exact this
  · obtain ⟨h1, h2⟩ := h.free
    refine ⟨h1, h2.imp id fun ⟨g', cap', cur', e1, e2, e3, rest⟩ => ⟨g', cap', cur', e1, e2, (other e3 (by decide)).trans e3, rest⟩⟩
  · intro k m hk
    have hcase : (k = i ∧ m = n') ∨ S.slots[k]? = some (some m) := by
      unfold Tr.put at hk
      simp only [] at hk
      by_cases e : i = k
      · subst e
        rw [List.getElem?_set_self hlt] at hk
        left; exact ⟨rfl, by simpa using hk.symm⟩
      · rw [List.getElem?_set_ne e] at hk
        right; exact hk
    have hold : AttrAt B w m.av m.attrs := by
      rcases hcase with ⟨rfl, rfl⟩ | hk
      · rw [hav, hat]; exact h.attrs k n (at_slot hi)
      · exact h.attrs k m hk
    obtain ⟨a, cp, e, hx⟩ := hold
    exact ⟨a, cp, e, hx.imp id fun ⟨g', cur', e1, e2, e3, e4⟩ => ⟨g', cur', e1, e2, (other e3 (by decide)).trans e3, e4⟩⟩
theorem at_put {S : Tr} {i : Nat} {n n' : Nd} (hi : S.at i = some n) (k : Nat) : (S.put i n').at k = if k = i then some n' else S.at k := by
  have hlt := at_lt hi
  unfold Tr.at Tr.put
  simp only []
  rw [List.getElem?_set]
  by_cases e : i = k
  · subst e; simp [hlt]
  · rw [if_neg e, if_neg (fun h => e h.symm)]
theorem hd_put (S : Tr) (i : Nat) (n : Nd) (k : Nat) : (S.put i n).hd k = S.hd k := rfl
end Go.Proofs.YtfelmdkeaacfeaaDoor.W
