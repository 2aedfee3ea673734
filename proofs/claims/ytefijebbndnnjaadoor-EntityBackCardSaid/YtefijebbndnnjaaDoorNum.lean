/- Numbers: the contracts of Repair (where the text is valid), Number and the reference's Number. -/
import Derived.Test.YtefijebbndnnjaaDoorLaid
set_option linter.unusedVariables false
namespace Go.Proofs.YtefijebbndnnjaaDoor.W
open Go.RowKit

theorem repair_valid (s : ByteArray) (w : World) (hs : s.size ≤ 9223372036854775807) (hv : Lib.validD s.data.toList = true) (hL : Laid w) :
    Calls Tryd.prog 23 #[.string s] w fun e w' => e = .returned (.string s) ∧ Below w.heap.size w w' := by
  have hc := valid_any s w hs hL
  rw [hv] at hc
  go_enter Tryd.func23, Tryd.ntmps23
  go_wp2_with (first | (go_at_call 38; refine hc.mono ?_; rintro e w1 ⟨rfl, hb⟩) | fail)
  go_ret
  exact ⟨rfl, hb⟩

theorem enc_size (r : Int) : (Utf8.encode r).size ≤ 4 := by
  unfold Utf8.encode
  simp only []
  repeat' split
  all_goals simp [ByteArray.size]
theorem ba_toList (s : ByteArray) : (⟨s.data.toList.toArray⟩ : ByteArray) = s := by cases s; rfl

theorem number_any (n : Int) (w : World) (hn : -9223372036854775808 ≤ n ∧ n ≤ 9223372036854775807) (hL : Laid w) :
    Calls Tryd.prog 11 #[.int .i64 n] w fun e w' => e = .returned (.string ⟨(numE n).toArray⟩) ∧ Below w.heap.size w w' := by
  have hval := numR_valid n
  rw [← num_eq] at hval
  unfold numE at hval ⊢
  rw [ba_toList]
  by_cases hlo : n < 1
  · rw [if_pos (Or.inl hlo)] at hval ⊢
    go_enter Tryd.func11, Tryd.ntmps11
    go_wp2_with (first | (go_at_call 23; refine (repair_valid _ _ (by have := enc_size 65533; omega) hval hL).mono ?_; rintro e w1 ⟨rfl, hb⟩) | fail)
    go_ret
    exact ⟨rfl, hb⟩
  · by_cases hhi : 1114111 < n
    · rw [if_pos (Or.inr hhi)] at hval ⊢
      go_enter Tryd.func11, Tryd.ntmps11
      go_wp2_with (first | (go_at_call 23; refine (repair_valid _ _ (by have := enc_size 65533; omega) hval hL).mono ?_; rintro e w1 ⟨rfl, hb⟩) | fail)
      go_ret
      exact ⟨rfl, hb⟩
    · rw [if_neg (by omega)] at hval ⊢
      go_enter Tryd.func11, Tryd.ntmps11
      go_wp2_with (first | (go_at_call 23; refine (repair_valid _ _ (by have := enc_size n; omega) hval hL).mono ?_; rintro e w1 ⟨rfl, hb⟩) | fail)
      go_ret
      exact ⟨rfl, hb⟩
end Go.Proofs.YtefijebbndnnjaaDoor.W
