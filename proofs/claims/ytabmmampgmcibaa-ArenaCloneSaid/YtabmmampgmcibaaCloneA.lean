/- The contracts of slices.Clone (slots, numbers) and of Clone: a copy in new memory. -/
import Derived.Test.YtabmmampgmcibaaPlaysA
import Derived.Test.YtabmmampgmcibaaFilled
import Derived.WalkSpells
namespace Go.Proofs.Ytabmmampgmcibaa.W
open Go.RowKit
set_option linter.unusedVariables false

theorem etS : ET Try.prog 29 84 2 16 := ET.mk' (z := .agg #[.bool false, .int .i64 0]) Try.underlying29 (by kernel_rfl) rfl (by decide)

theorem cloneS {w : World} {v : Value} {n : Nat} {xs : List Value} (h : Own w 84 2 v n xs) (h1 : ∀ u ∈ xs, u.oneCell' = true) (hn : n ≤ 1000000) :
    Calls Try.prog 49 #[v] w fun e w' => ∃ v', e = .returned v' ∧ All w.heap.size w [sl 84 2 v' n xs] w' := by
  rcases h.2 with ⟨rfl, rfl⟩ | ⟨g, cap, cur, rfl, _⟩
  · have hx : xs = [] := List.length_eq_zero_iff.1 (by rw [h.1])
    subst hx
    clear h
    have hq := fun w a n c n' c' => Lib.run_eql_slice_nil (P := Try.prog) w 29 84 a n c n' c' Try.underlying29
    go_enter Try.func49, Try.ntmps49
    go_wp2_with fail
    go_ret
    exact ⟨_, rfl, (All.start w).nil _ _⟩
  · have hA := (All.start w).newSlA w.heap.size rfl 84 2 0 [] rfl (by omega)
    have HS := Lib.hid (own_below h hA.below)
    have HA := Lib.hid hA
    clear h hA
    have hq := fun w a n c n' c' => Lib.run_eql_slice_nil (P := Try.prog) w 29 84 a n c n' c' Try.underlying29
    go_enter Try.func49, Try.ntmps49
    go_wp2_with (at_builtin; refine wpList_append_all etS [] HA.out HS.out h1 (by omega) (by omega) rfl _ _ rfl rfl rfl ?_; intro v' w1 hA2; simp only [List.nil_append, Nat.zero_add] at hA2)
    go_ret
    exact ⟨_, rfl, hA2⟩
theorem cloneI {w : World} {v : Value} {n : Nat} {xs : List Value} (h : Own w 3 1 v n xs) (h1 : ∀ u ∈ xs, u.oneCell' = true) (hn : n ≤ 1000000) :
    Calls Try.prog 50 #[v] w fun e w' => ∃ v', e = .returned v' ∧ All w.heap.size w [sl 3 1 v' n xs] w' := by
  rcases h.2 with ⟨rfl, rfl⟩ | ⟨g, cap, cur, rfl, _⟩
  · have hx : xs = [] := List.length_eq_zero_iff.1 (by rw [h.1])
    subst hx
    clear h
    have hq := fun w a n c n' c' => Lib.run_eql_slice_nil (P := Try.prog) w 30 3 a n c n' c' Try.underlying30
    go_enter Try.func50, Try.ntmps50
    go_wp2_with fail
    go_ret
    exact ⟨_, rfl, (All.start w).nil _ _⟩
  · have hA := (All.start w).newSlA w.heap.size rfl 3 1 0 [] rfl (by omega)
    have HS := Lib.hid (own_below h hA.below)
    have HA := Lib.hid hA
    clear h hA
    have hq := fun w a n c n' c' => Lib.run_eql_slice_nil (P := Try.prog) w 30 3 a n c n' c' Try.underlying30
    go_enter Try.func50, Try.ntmps50
    go_wp2_with (at_builtin; refine wpList_append_all etI [] HA.out HS.out h1 (by omega) (by omega) rfl _ _ rfl rfl rfl ?_; intro v' w1 hA2; simp only [List.nil_append, Nat.zero_add] at hA2)
    go_ret
    exact ⟨_, rfl, hA2⟩

set_option maxRecDepth 100000 in
set_option maxHeartbeats 1000000 in
theorem clone_any {w : World} {g : Nat} {A : Ar Int} {sv fv : Value} (h : AtI w g A sv fv) (hl : A.slots.length ≤ 1000000) (hfl : A.free.length ≤ 1000000) :
    Calls Try.prog 42 #[.pointer (some ⟨g, 0, none⟩)] w fun e w' => ∃ sv' fv', e = .returned (arV A sv' fv') ∧ All w.heap.size w (parts A sv' fv') w' := by
  obtain ⟨sa, sc, rfl⟩ := own_shape h.slots
  obtain ⟨fa, fc, rfl⟩ := own_shape h.free
  have hg := h.blk.lt
  have c0 := h.blk.cell 0
  have c1 := h.blk.cell 1
  have c2 := h.blk.cell 2
  have c3 := h.blk.cell 3
  have c4 := h.blk.cell 4
  simp at c0 c1 c2 c3 c4
  have hA1 := ((All.start w).newBkA w.heap.size rfl [.int .i64 0, .int .i64 0, .slice none 0 0, .slice none 0 0, .int .i64 0] 32).newBkA (w.heap.size + 1) (by simp) [.int .i64 A.b, .int .i64 A.s, .slice sa A.slots.length sc, .slice fa A.free.length fc, .int .i64 A.live] 32
  have h1 := h.below hA1.below
  have HA := Lib.hid hA1
  have H1 := Lib.hid h1
  have H0 := Lib.hid h
  have HC := Lib.hid (cloneS h1.slots (one_icells _) hl)
  clear h hA1 h1
  go_enter Try.func42, Try.ntmps42
  go_wp2_with fail
  refine HC.out.mono ?_
  rintro e w2 ⟨v', rfl, hA2⟩
  have ho : Own _ _ _ _ _ _ := hA2.head
  obtain ⟨va, vc, rfl⟩ := own_shape ho
  have hA3 := HA.out.after hA2
  have h2 := H0.out.below hA3.below
  have d0 := h2.blk.cell 3
  simp at d0
  have b1 : Blk _ _ _ _ := hA3.tail.head
  have e2 := b1.cell 2
  have f1 := b1.free
  simp at e2
  have n1 : g ≠ w.heap.size + 1 := by omega
  have n2 : w.heap.size + 1 ≠ g := by omega
  have hA4 := hA3.setBk [_] 2 (.slice va A.slots.length vc)
  have HF := Lib.hid (cloneI (own_below H0.out.free hA4.below) (one_fcells _) hfl)
  have HA4 := Lib.hid hA4
  clear hA4 hA3 b1 h2 ho hA2 HC H1 HA
  go_wp2_with fail
  refine HF.out.mono ?_
  rintro e w3 ⟨v', rfl, hA5⟩
  have ho : Own _ _ _ _ _ _ := hA5.head
  obtain ⟨vb, vd, rfl⟩ := own_shape ho
  have hA6 := HA4.out.after hA5
  have b1 : Blk _ _ _ _ := hA6.tail.tail.head
  have b0 : Blk _ _ _ _ := hA6.tail.tail.tail.head
  have e0 := b1.cell 0
  have e1 := b1.cell 1
  have e2 := b1.cell 2
  have e3 := b1.cell 3
  have e4 := b1.cell 4
  have f1 := b1.free
  have g0 := b0.cell 0
  have g1 := b0.cell 1
  have g2 := b0.cell 2
  have g3 := b0.cell 3
  have g4 := b0.cell 4
  have f0 := b0.free
  simp at e0 e1 e2 e3 e4 g0 g1 g2 g3 g4
  have HA6 := Lib.hid hA6
  clear hA6 b1 b0 ho hA5 HA4 HF
  go_wp2_with fail
  refine bodyPost_ret (v := arV A (.slice va A.slots.length vc) (.slice vb A.free.length vd)) (by unfold arV; simp [results, Try.results42, go_sem, *]) rfl ⟨_, _, rfl, ?_⟩
  have h9 := (((((HA6.out.setBk [_, _] 3 (.slice vb A.free.length vd)).setBk [_, _, _] 0 (.int .i64 A.b)).setBk [_, _, _] 1 (.int .i64 A.s)).setBk [_, _, _] 2 (.slice va A.slots.length vc)).setBk [_, _, _] 3 (.slice vb A.free.length vd)).setBk [_, _, _] 4 (.int .i64 A.live)
  exact h9.sel [1, 0] (by decide)
end Go.Proofs.Ytabmmampgmcibaa.W
