/- The reference's Number. -/
import Derived.Test.YtefijebbndnnjaaDoorNum
import Derived.Laws.BytesArg
set_option linter.unusedVariables false
namespace Go.Proofs.YtefijebbndnnjaaDoor.W
open Go.RowKit

/-- a text made of bytes that were just laid -/
theorem conv_new (w : World) (xs : List Int) :
    (convert 35 9 (.slice (some ⟨w.heap.size, 0, none⟩) xs.length xs.length)).run Tryd.prog (w.alloc (.cells (xs.map (Value.int .u8)).toArray 5)) = .ok (.string (strOfNums xs)) (w.alloc (.cells (xs.map (Value.int .u8)).toArray 5)) := by
  refine run_convert_bytes_arg _ 35 5 Tryd.underlying35 Tryd.underlying5 w.heap.size 0 xs.length xs.length xs rfl (fun i hi => ?_) 9 Tryd.underlying9
  have hb : (w.alloc (.cells (xs.map (Value.int .u8)).toArray 5)).heap[w.heap.size]? = some (.cells (xs.map (Value.int .u8)).toArray 5 (0, 0)) := heap_alloc_new w _
  rw [Lib.cell_of_heap hb, Nat.zero_add]
  simp [List.getD, List.getElem?_eq_getElem hi]

theorem conv1 (w : World) (a : Int) : (convert 35 9 (.slice (some ⟨w.heap.size, 0, none⟩) 1 1)).run Tryd.prog (w.alloc (.cells #[.int .u8 a] 5)) = .ok (.string (strOfNums [a])) (w.alloc (.cells #[.int .u8 a] 5)) := conv_new w [a]
theorem conv2 (w : World) (a b : Int) : (convert 35 9 (.slice (some ⟨w.heap.size, 0, none⟩) 2 2)).run Tryd.prog (w.alloc (.cells #[.int .u8 a, .int .u8 b] 5)) = .ok (.string (strOfNums [a, b])) (w.alloc (.cells #[.int .u8 a, .int .u8 b] 5)) := conv_new w [a, b]
theorem conv3 (w : World) (a b c : Int) : (convert 35 9 (.slice (some ⟨w.heap.size, 0, none⟩) 3 3)).run Tryd.prog (w.alloc (.cells #[.int .u8 a, .int .u8 b, .int .u8 c] 5)) = .ok (.string (strOfNums [a, b, c])) (w.alloc (.cells #[.int .u8 a, .int .u8 b, .int .u8 c] 5)) := conv_new w [a, b, c]
theorem conv4 (w : World) (a b c d : Int) : (convert 35 9 (.slice (some ⟨w.heap.size, 0, none⟩) 4 4)).run Tryd.prog (w.alloc (.cells #[.int .u8 a, .int .u8 b, .int .u8 c, .int .u8 d] 5)) = .ok (.string (strOfNums [a, b, c, d])) (w.alloc (.cells #[.int .u8 a, .int .u8 b, .int .u8 c, .int .u8 d] 5)) := conv_new w [a, b, c, d]

set_option maxRecDepth 100000 in
set_option maxHeartbeats 4000000 in
theorem numberR_any (n : Int) (w : World) (hn : -9223372036854775808 ≤ n ∧ n ≤ 9223372036854775807) :
    Calls Tryd.prog 12 #[.int .i64 n] w fun e w' => e = .returned (.string ⟨(numR n).toArray⟩) ∧ Below w.heap.size w w' := by
  by_cases h0 : n < 1
  · have e : numR n = [239, 191, 189] := if_pos (Or.inl h0)
    rw [e]
    go_enter Tryd.func12, Tryd.ntmps12
    go_wp2
    go_ret
    exact ⟨rfl, Below.refl _ _⟩
  by_cases h1 : 1114111 < n
  · have e : numR n = [239, 191, 189] := if_pos (Or.inr (Or.inl h1))
    rw [e]
    go_enter Tryd.func12, Tryd.ntmps12
    go_wp2
    go_ret
    exact ⟨rfl, Below.refl _ _⟩
  by_cases h2 : 55296 ≤ n ∧ n ≤ 57343
  · have e : numR n = [239, 191, 189] := if_pos (Or.inr (Or.inr h2))
    rw [e]
    obtain ⟨h2a, h2b⟩ := h2
    go_enter Tryd.func12, Tryd.ntmps12
    go_wp2
    go_ret
    exact ⟨rfl, Below.refl _ _⟩
  have hs : (55296 ≤ n → 57343 < n) := by omega
  have hne : ¬ (n < 1 ∨ 1114111 < n ∨ (55296 ≤ n ∧ n ≤ 57343)) := by omega
  by_cases h3 : n < 128
  · have hlt : n < 55296 := by omega
    go_enter Tryd.func12, Tryd.ntmps12
    go_wp2
    rw [conv1]
    simp only [Result.andThen]
    rw [Oper.upon_value]
    go_wp2
    go_ret
    refine ⟨?_, (Below.refl _ _).alloc (Nat.le_refl _) _⟩
    unfold numR
    rw [if_neg hne, if_pos h3]
    rfl
  by_cases h4 : n < 2048
  · have hlt : n < 55296 := by omega
    go_enter Tryd.func12, Tryd.ntmps12
    go_wp2
    rw [conv2]
    simp only [Result.andThen]
    rw [Oper.upon_value]
    go_wp2
    go_ret
    refine ⟨?_, (Below.refl _ _).alloc (Nat.le_refl _) _⟩
    have e1 : (192 + n / 64).toNat = 192 + n.toNat / 64 := by omega
    have e2 : (128 + n % 64).toNat = 128 + n.toNat % 64 := by omega
    unfold numR strOfNums
    rw [if_neg hne, if_neg (show ¬ n < 128 by omega), if_pos h4]
    simp only [List.map_cons, List.map_nil, e1, e2]
    rfl
  by_cases h5 : n < 65536
  · by_cases hlt : n < 55296
    · go_enter Tryd.func12, Tryd.ntmps12
      go_wp2
      rw [conv3]
      simp only [Result.andThen]
      rw [Oper.upon_value]
      go_wp2
      go_ret
      refine ⟨?_, (Below.refl _ _).alloc (Nat.le_refl _) _⟩
      have e1 : (224 + n / 4096).toNat = 224 + n.toNat / 4096 := by omega
      have e3 : (128 + n / 64 % 64).toNat = 128 + n.toNat / 64 % 64 := by omega
      have e2 : (128 + n % 64).toNat = 128 + n.toNat % 64 := by omega
      unfold numR strOfNums
      rw [if_neg hne, if_neg (show ¬ n < 128 by omega), if_neg (show ¬ n < 2048 by omega), if_pos h5]
      simp only [List.map_cons, List.map_nil, e1, e3, e2]
      rfl
    · have hgt : 57343 < n := by omega
      go_enter Tryd.func12, Tryd.ntmps12
      go_wp2
      rw [conv3]
      simp only [Result.andThen]
      rw [Oper.upon_value]
      go_wp2
      go_ret
      refine ⟨?_, (Below.refl _ _).alloc (Nat.le_refl _) _⟩
      have e1 : (224 + n / 4096).toNat = 224 + n.toNat / 4096 := by omega
      have e3 : (128 + n / 64 % 64).toNat = 128 + n.toNat / 64 % 64 := by omega
      have e2 : (128 + n % 64).toNat = 128 + n.toNat % 64 := by omega
      unfold numR strOfNums
      rw [if_neg hne, if_neg (show ¬ n < 128 by omega), if_neg (show ¬ n < 2048 by omega), if_pos h5]
      simp only [List.map_cons, List.map_nil, e1, e3, e2]
      rfl
  · have hgt : 57343 < n := by omega
    go_enter Tryd.func12, Tryd.ntmps12
    go_wp2
    rw [conv4]
    simp only [Result.andThen]
    rw [Oper.upon_value]
    go_wp2
    go_ret
    refine ⟨?_, (Below.refl _ _).alloc (Nat.le_refl _) _⟩
    have e1 : (240 + n / 262144).toNat = 240 + n.toNat / 262144 := by omega
    have e3 : (128 + n / 64 % 64).toNat = 128 + n.toNat / 64 % 64 := by omega
    have e4 : (128 + n / 4096 % 64).toNat = 128 + n.toNat / 4096 % 64 := by omega
    have e2 : (128 + n % 64).toNat = 128 + n.toNat % 64 := by omega
    unfold numR strOfNums
    rw [if_neg hne, if_neg (show ¬ n < 128 by omega), if_neg (show ¬ n < 2048 by omega), if_neg (show ¬ n < 65536 by omega)]
    simp only [List.map_cons, List.map_nil, e1, e4, e3, e2]
    rfl
end Go.Proofs.YtefijebbndnnjaaDoor.W
