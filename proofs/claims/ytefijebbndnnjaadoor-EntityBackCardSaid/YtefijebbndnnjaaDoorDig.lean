/- The digits: the contracts of digit and of the digit of the reference. -/
import Derived.Test.YtefijebbndnnjaaDoorNumR
set_option linter.unusedVariables false
namespace Go.Proofs.YtefijebbndnnjaaDoor.W
open Go.RowKit

set_option maxRecDepth 100000 in
set_option maxHeartbeats 4000000 in
theorem digit_any (c : UInt8) (base : Int) (hb : base = 10 ∨ base = 16) (w : World) :
    Calls Tryd.prog 41 #[.int .u8 c.toNat, .int .i64 base] w fun e w' => e = .returned (.int .i64 (digR c base)) ∧ w' = w := by
  have hc := c.toNat_lt
  have key : ∀ r : Int, digR c base = r → Calls Tryd.prog 41 #[.int .u8 c.toNat, .int .i64 base] w (fun e w' => e = .returned (.int .i64 r) ∧ w' = w) → Calls Tryd.prog 41 #[.int .u8 c.toNat, .int .i64 base] w fun e w' => e = .returned (.int .i64 (digR c base)) ∧ w' = w := fun r h k => by rw [h]; exact k
  rcases hb with rfl | rfl
  · have hb : True := trivial
    by_cases q0 : c.toNat < 48
    · refine key (-1) ?_ ?_
      · unfold digR; repeat' split
        all_goals omega
      · generalize hx : (c.toNat : Int) = x at *
        have f0 : x < 48 := by omega
        clear key
        go_enter Tryd.func41, Tryd.ntmps41
        go_wp2
        all_goals go_ret
        all_goals exact ⟨rfl, rfl⟩
    by_cases q1 : c.toNat ≤ 57
    · refine key ((c.toNat : Int) - 48) ?_ ?_
      · unfold digR; repeat' split
        all_goals omega
      · generalize hx : (c.toNat : Int) = x at *
        have f0 : 48 ≤ x := by omega
        have f1 : x ≤ 57 := by omega
        have f2 : ¬ (10 : Int) ≤ x - 48 := by omega
        clear key
        go_enter Tryd.func41, Tryd.ntmps41
        go_wp2
        all_goals go_ret
        all_goals exact ⟨rfl, rfl⟩
    by_cases q2 : c.toNat < 65
    · refine key (-1) ?_ ?_
      · unfold digR; repeat' split
        all_goals omega
      · generalize hx : (c.toNat : Int) = x at *
        have f0 : 57 < x := by omega
        have f1 : x < 65 := by omega
        clear key
        go_enter Tryd.func41, Tryd.ntmps41
        go_wp2
        all_goals go_ret
        all_goals exact ⟨rfl, rfl⟩
    by_cases q3 : c.toNat ≤ 70
    · refine key (-1) ?_ ?_
      · unfold digR; repeat' split
        all_goals omega
      · generalize hx : (c.toNat : Int) = x at *
        have f0 : 57 < x := by omega
        have f1 : 65 ≤ x := by omega
        have f2 : x ≤ 70 := by omega
        have f3 : x < 97 := by omega
        have f4 : (10 : Int) ≤ x - 65 + 10 := by omega
        clear key
        go_enter Tryd.func41, Tryd.ntmps41
        go_wp2
        all_goals go_ret
        all_goals exact ⟨rfl, rfl⟩
    by_cases q4 : c.toNat < 97
    · refine key (-1) ?_ ?_
      · unfold digR; repeat' split
        all_goals omega
      · generalize hx : (c.toNat : Int) = x at *
        have f0 : 70 < x := by omega
        have f1 : x < 97 := by omega
        clear key
        go_enter Tryd.func41, Tryd.ntmps41
        go_wp2
        all_goals go_ret
        all_goals exact ⟨rfl, rfl⟩
    by_cases q5 : c.toNat ≤ 102
    · refine key (-1) ?_ ?_
      · unfold digR; repeat' split
        all_goals omega
      · generalize hx : (c.toNat : Int) = x at *
        have f0 : 70 < x := by omega
        have f1 : 97 ≤ x := by omega
        have f2 : x ≤ 102 := by omega
        have f3 : (10 : Int) ≤ x - 97 + 10 := by omega
        clear key
        go_enter Tryd.func41, Tryd.ntmps41
        go_wp2
        all_goals go_ret
        all_goals exact ⟨rfl, rfl⟩
    · refine key (-1) ?_ ?_
      · unfold digR; repeat' split
        all_goals omega
      · generalize hx : (c.toNat : Int) = x at *
        have f0 : 102 < x := by omega
        clear key
        go_enter Tryd.func41, Tryd.ntmps41
        go_wp2
        all_goals go_ret
        all_goals exact ⟨rfl, rfl⟩
  · have hb : True := trivial
    by_cases q0 : c.toNat < 48
    · refine key (-1) ?_ ?_
      · unfold digR; repeat' split
        all_goals omega
      · generalize hx : (c.toNat : Int) = x at *
        have f0 : x < 48 := by omega
        clear key
        go_enter Tryd.func41, Tryd.ntmps41
        go_wp2
        all_goals go_ret
        all_goals exact ⟨rfl, rfl⟩
    by_cases q1 : c.toNat ≤ 57
    · refine key ((c.toNat : Int) - 48) ?_ ?_
      · unfold digR; repeat' split
        all_goals omega
      · generalize hx : (c.toNat : Int) = x at *
        have f0 : 48 ≤ x := by omega
        have f1 : x ≤ 57 := by omega
        have f2 : ¬ (16 : Int) ≤ x - 48 := by omega
        clear key
        go_enter Tryd.func41, Tryd.ntmps41
        go_wp2
        all_goals go_ret
        all_goals exact ⟨rfl, rfl⟩
    by_cases q2 : c.toNat < 65
    · refine key (-1) ?_ ?_
      · unfold digR; repeat' split
        all_goals omega
      · generalize hx : (c.toNat : Int) = x at *
        have f0 : 57 < x := by omega
        have f1 : x < 65 := by omega
        clear key
        go_enter Tryd.func41, Tryd.ntmps41
        go_wp2
        all_goals go_ret
        all_goals exact ⟨rfl, rfl⟩
    by_cases q3 : c.toNat ≤ 70
    · refine key ((c.toNat : Int) - 65 + 10) ?_ ?_
      · unfold digR; repeat' split
        all_goals omega
      · generalize hx : (c.toNat : Int) = x at *
        have f0 : 57 < x := by omega
        have f1 : 65 ≤ x := by omega
        have f2 : x ≤ 70 := by omega
        have f3 : x < 97 := by omega
        have f4 : ¬ (16 : Int) ≤ x - 65 + 10 := by omega
        clear key
        go_enter Tryd.func41, Tryd.ntmps41
        go_wp2
        all_goals go_ret
        all_goals exact ⟨rfl, rfl⟩
    by_cases q4 : c.toNat < 97
    · refine key (-1) ?_ ?_
      · unfold digR; repeat' split
        all_goals omega
      · generalize hx : (c.toNat : Int) = x at *
        have f0 : 70 < x := by omega
        have f1 : x < 97 := by omega
        clear key
        go_enter Tryd.func41, Tryd.ntmps41
        go_wp2
        all_goals go_ret
        all_goals exact ⟨rfl, rfl⟩
    by_cases q5 : c.toNat ≤ 102
    · refine key ((c.toNat : Int) - 97 + 10) ?_ ?_
      · unfold digR; repeat' split
        all_goals omega
      · generalize hx : (c.toNat : Int) = x at *
        have f0 : 70 < x := by omega
        have f1 : 97 ≤ x := by omega
        have f2 : x ≤ 102 := by omega
        have f3 : ¬ (16 : Int) ≤ x - 97 + 10 := by omega
        clear key
        go_enter Tryd.func41, Tryd.ntmps41
        go_wp2
        all_goals go_ret
        all_goals exact ⟨rfl, rfl⟩
    · refine key (-1) ?_ ?_
      · unfold digR; repeat' split
        all_goals omega
      · generalize hx : (c.toNat : Int) = x at *
        have f0 : 102 < x := by omega
        clear key
        go_enter Tryd.func41, Tryd.ntmps41
        go_wp2
        all_goals go_ret
        all_goals exact ⟨rfl, rfl⟩

set_option maxRecDepth 100000 in
set_option maxHeartbeats 4000000 in
theorem digitR_any (c : UInt8) (base : Int) (hb : base = 10 ∨ base = 16) (w : World) :
    Calls Tryd.prog 44 #[.int .u8 c.toNat, .int .i64 base] w fun e w' => e = .returned (.int .i64 (digR c base)) ∧ w' = w := by
  have hc := c.toNat_lt
  have key : ∀ r : Int, digR c base = r → Calls Tryd.prog 44 #[.int .u8 c.toNat, .int .i64 base] w (fun e w' => e = .returned (.int .i64 r) ∧ w' = w) → Calls Tryd.prog 44 #[.int .u8 c.toNat, .int .i64 base] w fun e w' => e = .returned (.int .i64 (digR c base)) ∧ w' = w := fun r h k => by rw [h]; exact k
  rcases hb with rfl | rfl
  · have hb : True := trivial
    by_cases q0 : c.toNat < 48
    · refine key (-1) ?_ ?_
      · unfold digR; repeat' split
        all_goals omega
      · generalize hx : (c.toNat : Int) = x at *
        have f0 : x < 48 := by omega
        clear key
        go_enter Tryd.func44, Tryd.ntmps44
        go_wp2
        all_goals go_ret
        all_goals exact ⟨rfl, rfl⟩
    by_cases q1 : c.toNat ≤ 57
    · refine key ((c.toNat : Int) - 48) ?_ ?_
      · unfold digR; repeat' split
        all_goals omega
      · generalize hx : (c.toNat : Int) = x at *
        have f0 : 48 ≤ x := by omega
        have f1 : x ≤ 57 := by omega
        have f2 : ¬ (10 : Int) ≤ x - 48 := by omega
        clear key
        go_enter Tryd.func44, Tryd.ntmps44
        go_wp2
        all_goals go_ret
        all_goals exact ⟨rfl, rfl⟩
    by_cases q2 : c.toNat < 65
    · refine key (-1) ?_ ?_
      · unfold digR; repeat' split
        all_goals omega
      · generalize hx : (c.toNat : Int) = x at *
        have f0 : 57 < x := by omega
        have f1 : x < 65 := by omega
        clear key
        go_enter Tryd.func44, Tryd.ntmps44
        go_wp2
        all_goals go_ret
        all_goals exact ⟨rfl, rfl⟩
    by_cases q3 : c.toNat ≤ 70
    · refine key (-1) ?_ ?_
      · unfold digR; repeat' split
        all_goals omega
      · generalize hx : (c.toNat : Int) = x at *
        have f0 : 57 < x := by omega
        have f1 : 65 ≤ x := by omega
        have f2 : x ≤ 70 := by omega
        have f3 : x < 97 := by omega
        clear key
        go_enter Tryd.func44, Tryd.ntmps44
        go_wp2
        all_goals go_ret
        all_goals exact ⟨rfl, rfl⟩
    by_cases q4 : c.toNat < 97
    · refine key (-1) ?_ ?_
      · unfold digR; repeat' split
        all_goals omega
      · generalize hx : (c.toNat : Int) = x at *
        have f0 : 70 < x := by omega
        have f1 : x < 97 := by omega
        clear key
        go_enter Tryd.func44, Tryd.ntmps44
        go_wp2
        all_goals go_ret
        all_goals exact ⟨rfl, rfl⟩
    by_cases q5 : c.toNat ≤ 102
    · refine key (-1) ?_ ?_
      · unfold digR; repeat' split
        all_goals omega
      · generalize hx : (c.toNat : Int) = x at *
        have f0 : 70 < x := by omega
        have f1 : 97 ≤ x := by omega
        have f2 : x ≤ 102 := by omega
        clear key
        go_enter Tryd.func44, Tryd.ntmps44
        go_wp2
        all_goals go_ret
        all_goals exact ⟨rfl, rfl⟩
    · refine key (-1) ?_ ?_
      · unfold digR; repeat' split
        all_goals omega
      · generalize hx : (c.toNat : Int) = x at *
        have f0 : 102 < x := by omega
        clear key
        go_enter Tryd.func44, Tryd.ntmps44
        go_wp2
        all_goals go_ret
        all_goals exact ⟨rfl, rfl⟩
  · have hb : True := trivial
    by_cases q0 : c.toNat < 48
    · refine key (-1) ?_ ?_
      · unfold digR; repeat' split
        all_goals omega
      · generalize hx : (c.toNat : Int) = x at *
        have f0 : x < 48 := by omega
        clear key
        go_enter Tryd.func44, Tryd.ntmps44
        go_wp2
        all_goals go_ret
        all_goals exact ⟨rfl, rfl⟩
    by_cases q1 : c.toNat ≤ 57
    · refine key ((c.toNat : Int) - 48) ?_ ?_
      · unfold digR; repeat' split
        all_goals omega
      · generalize hx : (c.toNat : Int) = x at *
        have f0 : 48 ≤ x := by omega
        have f1 : x ≤ 57 := by omega
        have f2 : ¬ (16 : Int) ≤ x - 48 := by omega
        clear key
        go_enter Tryd.func44, Tryd.ntmps44
        go_wp2
        all_goals go_ret
        all_goals exact ⟨rfl, rfl⟩
    by_cases q2 : c.toNat < 65
    · refine key (-1) ?_ ?_
      · unfold digR; repeat' split
        all_goals omega
      · generalize hx : (c.toNat : Int) = x at *
        have f0 : 57 < x := by omega
        have f1 : x < 65 := by omega
        clear key
        go_enter Tryd.func44, Tryd.ntmps44
        go_wp2
        all_goals go_ret
        all_goals exact ⟨rfl, rfl⟩
    by_cases q3 : c.toNat ≤ 70
    · refine key ((c.toNat : Int) - 65 + 10) ?_ ?_
      · unfold digR; repeat' split
        all_goals omega
      · generalize hx : (c.toNat : Int) = x at *
        have f0 : 57 < x := by omega
        have f1 : 65 ≤ x := by omega
        have f2 : x ≤ 70 := by omega
        have f3 : x < 97 := by omega
        have f4 : ¬ (16 : Int) ≤ x - 65 + 10 := by omega
        clear key
        go_enter Tryd.func44, Tryd.ntmps44
        go_wp2
        all_goals go_ret
        all_goals exact ⟨rfl, rfl⟩
    by_cases q4 : c.toNat < 97
    · refine key (-1) ?_ ?_
      · unfold digR; repeat' split
        all_goals omega
      · generalize hx : (c.toNat : Int) = x at *
        have f0 : 70 < x := by omega
        have f1 : x < 97 := by omega
        clear key
        go_enter Tryd.func44, Tryd.ntmps44
        go_wp2
        all_goals go_ret
        all_goals exact ⟨rfl, rfl⟩
    by_cases q5 : c.toNat ≤ 102
    · refine key ((c.toNat : Int) - 97 + 10) ?_ ?_
      · unfold digR; repeat' split
        all_goals omega
      · generalize hx : (c.toNat : Int) = x at *
        have f0 : 70 < x := by omega
        have f1 : 97 ≤ x := by omega
        have f2 : x ≤ 102 := by omega
        have f3 : ¬ (16 : Int) ≤ x - 97 + 10 := by omega
        clear key
        go_enter Tryd.func44, Tryd.ntmps44
        go_wp2
        all_goals go_ret
        all_goals exact ⟨rfl, rfl⟩
    · refine key (-1) ?_ ?_
      · unfold digR; repeat' split
        all_goals omega
      · generalize hx : (c.toNat : Int) = x at *
        have f0 : 102 < x := by omega
        clear key
        go_enter Tryd.func44, Tryd.ntmps44
        go_wp2
        all_goals go_ret
        all_goals exact ⟨rfl, rfl⟩
end Go.Proofs.YtefijebbndnnjaaDoor.W
