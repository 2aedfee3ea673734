/- Whether a name goes on: the contracts of goes and of word. -/
import Derived.Test.YtefijebbndnnjaaDoorNumR
set_option linter.unusedVariables false
namespace Go.Proofs.YtefijebbndnnjaaDoor.W
open Go.RowKit

def goesP (c : UInt8) : Bool := decide (c.toNat = 61 ∨ (48 ≤ c.toNat ∧ c.toNat ≤ 57) ∨ (97 ≤ c.toNat ∧ c.toNat ≤ 122) ∨ (65 ≤ c.toNat ∧ c.toNat ≤ 90))

set_option maxRecDepth 100000 in
set_option maxHeartbeats 4000000 in
theorem goes_any (c : UInt8) (w : World) :
    Calls Tryd.prog 28 #[.int .u8 c.toNat] w fun e w' => e = .returned (.bool (goesP c)) ∧ w' = w := by
  have hc := c.toNat_lt
  have key : ∀ r : Bool, goesP c = r → Calls Tryd.prog 28 #[.int .u8 c.toNat] w (fun e w' => e = .returned (.bool r) ∧ w' = w) → Calls Tryd.prog 28 #[.int .u8 c.toNat] w fun e w' => e = .returned (.bool (goesP c)) ∧ w' = w := fun r h k => by rw [h]; exact k
  by_cases q0 : c.toNat < 48
  · refine key false (decide_eq_false (by omega)) ?_
    generalize hx : (c.toNat : Int) = x at *
    have f0 : x < 48 := by omega
    have f1 : ¬ x = 61 := by omega
    have g57 : decide (x ≤ 57) = true := decide_eq_true (by omega)
    have g122 : decide (x ≤ 122) = true := decide_eq_true (by omega)
    have g90 : decide (x ≤ 90) = true := decide_eq_true (by omega)
    have g61 : (x == 61) = false := by simp; omega
    clear key
    go_enter Tryd.func28, Tryd.ntmps28
    go_wp2
    all_goals go_ret
    all_goals exact ⟨rfl, rfl⟩
  by_cases q1 : c.toNat ≤ 57
  · refine key true (decide_eq_true (by omega)) ?_
    generalize hx : (c.toNat : Int) = x at *
    have f0 : 48 ≤ x := by omega
    have f1 : x ≤ 57 := by omega
    have f2 : ¬ x = 61 := by omega
    have g57 : decide (x ≤ 57) = true := decide_eq_true (by omega)
    have g122 : decide (x ≤ 122) = true := decide_eq_true (by omega)
    have g90 : decide (x ≤ 90) = true := decide_eq_true (by omega)
    have g61 : (x == 61) = false := by simp; omega
    clear key
    go_enter Tryd.func28, Tryd.ntmps28
    go_wp2
    all_goals go_ret
    all_goals exact ⟨rfl, rfl⟩
  by_cases q2 : c.toNat < 61
  · refine key false (decide_eq_false (by omega)) ?_
    generalize hx : (c.toNat : Int) = x at *
    have f0 : 57 < x := by omega
    have f1 : x < 61 := by omega
    have f2 : ¬ x = 61 := by omega
    have g57 : decide (x ≤ 57) = false := decide_eq_false (by omega)
    have g122 : decide (x ≤ 122) = true := decide_eq_true (by omega)
    have g90 : decide (x ≤ 90) = true := decide_eq_true (by omega)
    have g61 : (x == 61) = false := by simp; omega
    clear key
    go_enter Tryd.func28, Tryd.ntmps28
    go_wp2
    all_goals go_ret
    all_goals exact ⟨rfl, rfl⟩
  by_cases q3 : c.toNat = 61
  · refine key true (decide_eq_true (by omega)) ?_
    generalize hx : (c.toNat : Int) = x at *
    have f0 : x = 61 := by omega
    have g57 : decide (x ≤ 57) = false := decide_eq_false (by omega)
    have g122 : decide (x ≤ 122) = true := decide_eq_true (by omega)
    have g90 : decide (x ≤ 90) = true := decide_eq_true (by omega)
    clear key
    go_enter Tryd.func28, Tryd.ntmps28
    go_wp2
    all_goals go_ret
    all_goals exact ⟨rfl, rfl⟩
  by_cases q4 : c.toNat < 65
  · refine key false (decide_eq_false (by omega)) ?_
    generalize hx : (c.toNat : Int) = x at *
    have f0 : 61 < x := by omega
    have f1 : x < 65 := by omega
    have f2 : ¬ x = 61 := by omega
    have g57 : decide (x ≤ 57) = false := decide_eq_false (by omega)
    have g122 : decide (x ≤ 122) = true := decide_eq_true (by omega)
    have g90 : decide (x ≤ 90) = true := decide_eq_true (by omega)
    have g61 : (x == 61) = false := by simp; omega
    clear key
    go_enter Tryd.func28, Tryd.ntmps28
    go_wp2
    all_goals go_ret
    all_goals exact ⟨rfl, rfl⟩
  by_cases q5 : c.toNat ≤ 90
  · refine key true (decide_eq_true (by omega)) ?_
    generalize hx : (c.toNat : Int) = x at *
    have f0 : 61 < x := by omega
    have f1 : 65 ≤ x := by omega
    have f2 : x ≤ 90 := by omega
    have f3 : ¬ x = 61 := by omega
    have g57 : decide (x ≤ 57) = false := decide_eq_false (by omega)
    have g122 : decide (x ≤ 122) = true := decide_eq_true (by omega)
    have g90 : decide (x ≤ 90) = true := decide_eq_true (by omega)
    have g61 : (x == 61) = false := by simp; omega
    clear key
    go_enter Tryd.func28, Tryd.ntmps28
    go_wp2
    all_goals go_ret
    all_goals exact ⟨rfl, rfl⟩
  by_cases q6 : c.toNat < 97
  · refine key false (decide_eq_false (by omega)) ?_
    generalize hx : (c.toNat : Int) = x at *
    have f0 : 90 < x := by omega
    have f1 : x < 97 := by omega
    have f2 : ¬ x = 61 := by omega
    have g57 : decide (x ≤ 57) = false := decide_eq_false (by omega)
    have g122 : decide (x ≤ 122) = true := decide_eq_true (by omega)
    have g90 : decide (x ≤ 90) = false := decide_eq_false (by omega)
    have g61 : (x == 61) = false := by simp; omega
    clear key
    go_enter Tryd.func28, Tryd.ntmps28
    go_wp2
    all_goals go_ret
    all_goals exact ⟨rfl, rfl⟩
  by_cases q7 : c.toNat ≤ 122
  · refine key true (decide_eq_true (by omega)) ?_
    generalize hx : (c.toNat : Int) = x at *
    have f0 : 90 < x := by omega
    have f1 : 97 ≤ x := by omega
    have f2 : x ≤ 122 := by omega
    have f3 : ¬ x = 61 := by omega
    have g57 : decide (x ≤ 57) = false := decide_eq_false (by omega)
    have g122 : decide (x ≤ 122) = true := decide_eq_true (by omega)
    have g90 : decide (x ≤ 90) = false := decide_eq_false (by omega)
    have g61 : (x == 61) = false := by simp; omega
    clear key
    go_enter Tryd.func28, Tryd.ntmps28
    go_wp2
    all_goals go_ret
    all_goals exact ⟨rfl, rfl⟩
  · refine key false (decide_eq_false (by omega)) ?_
    generalize hx : (c.toNat : Int) = x at *
    have f0 : 122 < x := by omega
    have f1 : ¬ x = 61 := by omega
    have g57 : decide (x ≤ 57) = false := decide_eq_false (by omega)
    have g122 : decide (x ≤ 122) = false := decide_eq_false (by omega)
    have g90 : decide (x ≤ 90) = false := decide_eq_false (by omega)
    have g61 : (x == 61) = false := by simp; omega
    clear key
    go_enter Tryd.func28, Tryd.ntmps28
    go_wp2
    all_goals go_ret
    all_goals exact ⟨rfl, rfl⟩

set_option maxRecDepth 100000 in
set_option maxHeartbeats 4000000 in
theorem word_any (c : UInt8) (w : World) :
    Calls Tryd.prog 32 #[.int .u8 c.toNat] w fun e w' => e = .returned (.bool (goesP c)) ∧ w' = w := by
  have hc := c.toNat_lt
  have key : ∀ r : Bool, goesP c = r → Calls Tryd.prog 32 #[.int .u8 c.toNat] w (fun e w' => e = .returned (.bool r) ∧ w' = w) → Calls Tryd.prog 32 #[.int .u8 c.toNat] w fun e w' => e = .returned (.bool (goesP c)) ∧ w' = w := fun r h k => by rw [h]; exact k
  by_cases q0 : c.toNat < 48
  · refine key false (decide_eq_false (by omega)) ?_
    generalize hx : (c.toNat : Int) = x at *
    have f0 : x < 48 := by omega
    have f1 : ¬ x = 61 := by omega
    have g57 : decide (x ≤ 57) = true := decide_eq_true (by omega)
    have g122 : decide (x ≤ 122) = true := decide_eq_true (by omega)
    have g90 : decide (x ≤ 90) = true := decide_eq_true (by omega)
    have g61 : (x == 61) = false := by simp; omega
    clear key
    go_enter Tryd.func32, Tryd.ntmps32
    go_wp2
    all_goals go_ret
    all_goals exact ⟨rfl, rfl⟩
  by_cases q1 : c.toNat ≤ 57
  · refine key true (decide_eq_true (by omega)) ?_
    generalize hx : (c.toNat : Int) = x at *
    have f0 : 48 ≤ x := by omega
    have f1 : x ≤ 57 := by omega
    have f2 : ¬ x = 61 := by omega
    have g57 : decide (x ≤ 57) = true := decide_eq_true (by omega)
    have g122 : decide (x ≤ 122) = true := decide_eq_true (by omega)
    have g90 : decide (x ≤ 90) = true := decide_eq_true (by omega)
    have g61 : (x == 61) = false := by simp; omega
    clear key
    go_enter Tryd.func32, Tryd.ntmps32
    go_wp2
    all_goals go_ret
    all_goals exact ⟨rfl, rfl⟩
  by_cases q2 : c.toNat < 61
  · refine key false (decide_eq_false (by omega)) ?_
    generalize hx : (c.toNat : Int) = x at *
    have f0 : 57 < x := by omega
    have f1 : x < 61 := by omega
    have f2 : ¬ x = 61 := by omega
    have g57 : decide (x ≤ 57) = false := decide_eq_false (by omega)
    have g122 : decide (x ≤ 122) = true := decide_eq_true (by omega)
    have g90 : decide (x ≤ 90) = true := decide_eq_true (by omega)
    have g61 : (x == 61) = false := by simp; omega
    clear key
    go_enter Tryd.func32, Tryd.ntmps32
    go_wp2
    all_goals go_ret
    all_goals exact ⟨rfl, rfl⟩
  by_cases q3 : c.toNat = 61
  · refine key true (decide_eq_true (by omega)) ?_
    generalize hx : (c.toNat : Int) = x at *
    have f0 : x = 61 := by omega
    have g57 : decide (x ≤ 57) = false := decide_eq_false (by omega)
    have g122 : decide (x ≤ 122) = true := decide_eq_true (by omega)
    have g90 : decide (x ≤ 90) = true := decide_eq_true (by omega)
    clear key
    go_enter Tryd.func32, Tryd.ntmps32
    go_wp2
    all_goals go_ret
    all_goals exact ⟨rfl, rfl⟩
  by_cases q4 : c.toNat < 65
  · refine key false (decide_eq_false (by omega)) ?_
    generalize hx : (c.toNat : Int) = x at *
    have f0 : 61 < x := by omega
    have f1 : x < 65 := by omega
    have f2 : ¬ x = 61 := by omega
    have g57 : decide (x ≤ 57) = false := decide_eq_false (by omega)
    have g122 : decide (x ≤ 122) = true := decide_eq_true (by omega)
    have g90 : decide (x ≤ 90) = true := decide_eq_true (by omega)
    have g61 : (x == 61) = false := by simp; omega
    clear key
    go_enter Tryd.func32, Tryd.ntmps32
    go_wp2
    all_goals go_ret
    all_goals exact ⟨rfl, rfl⟩
  by_cases q5 : c.toNat ≤ 90
  · refine key true (decide_eq_true (by omega)) ?_
    generalize hx : (c.toNat : Int) = x at *
    have f0 : 61 < x := by omega
    have f1 : 65 ≤ x := by omega
    have f2 : x ≤ 90 := by omega
    have f3 : ¬ x = 61 := by omega
    have g57 : decide (x ≤ 57) = false := decide_eq_false (by omega)
    have g122 : decide (x ≤ 122) = true := decide_eq_true (by omega)
    have g90 : decide (x ≤ 90) = true := decide_eq_true (by omega)
    have g61 : (x == 61) = false := by simp; omega
    clear key
    go_enter Tryd.func32, Tryd.ntmps32
    go_wp2
    all_goals go_ret
    all_goals exact ⟨rfl, rfl⟩
  by_cases q6 : c.toNat < 97
  · refine key false (decide_eq_false (by omega)) ?_
    generalize hx : (c.toNat : Int) = x at *
    have f0 : 90 < x := by omega
    have f1 : x < 97 := by omega
    have f2 : ¬ x = 61 := by omega
    have g57 : decide (x ≤ 57) = false := decide_eq_false (by omega)
    have g122 : decide (x ≤ 122) = true := decide_eq_true (by omega)
    have g90 : decide (x ≤ 90) = false := decide_eq_false (by omega)
    have g61 : (x == 61) = false := by simp; omega
    clear key
    go_enter Tryd.func32, Tryd.ntmps32
    go_wp2
    all_goals go_ret
    all_goals exact ⟨rfl, rfl⟩
  by_cases q7 : c.toNat ≤ 122
  · refine key true (decide_eq_true (by omega)) ?_
    generalize hx : (c.toNat : Int) = x at *
    have f0 : 90 < x := by omega
    have f1 : 97 ≤ x := by omega
    have f2 : x ≤ 122 := by omega
    have f3 : ¬ x = 61 := by omega
    have g57 : decide (x ≤ 57) = false := decide_eq_false (by omega)
    have g122 : decide (x ≤ 122) = true := decide_eq_true (by omega)
    have g90 : decide (x ≤ 90) = false := decide_eq_false (by omega)
    have g61 : (x == 61) = false := by simp; omega
    clear key
    go_enter Tryd.func32, Tryd.ntmps32
    go_wp2
    all_goals go_ret
    all_goals exact ⟨rfl, rfl⟩
  · refine key false (decide_eq_false (by omega)) ?_
    generalize hx : (c.toNat : Int) = x at *
    have f0 : 122 < x := by omega
    have f1 : ¬ x = 61 := by omega
    have g57 : decide (x ≤ 57) = false := decide_eq_false (by omega)
    have g122 : decide (x ≤ 122) = false := decide_eq_false (by omega)
    have g90 : decide (x ≤ 90) = false := decide_eq_false (by omega)
    have g61 : (x == 61) = false := by simp; omega
    clear key
    go_enter Tryd.func32, Tryd.ntmps32
    go_wp2
    all_goals go_ret
    all_goals exact ⟨rfl, rfl⟩
end Go.Proofs.YtefijebbndnnjaaDoor.W
