/- The contracts of elementName, lower and attrs at one-letter names without attributes. -/
import Derived.Test.YtfelmdkeaacfeaaDoorNewT
import Derived.Test.YtfelmdkeaacfeaaDoorShf
import Derived.Laws.IdiomStrings
namespace Go.Proofs.YtfelmdkeaacfeaaDoor.W
open Go.RowKit
set_option linter.unusedVariables false
set_option linter.unusedSimpArgs false


set_option maxRecDepth 100000 in
set_option maxHeartbeats 2000000 in
theorem valid_one (c : UInt8) (hc : Ltr c) (w : World) : Calls Tryd.prog 30 #[.string ⟨#[c]⟩] w fun e w' => e = .returned (.bool true) ∧ w' = w := by
  rcases hc with rfl | rfl | rfl
  · go_enter Tryd.func30, Tryd.ntmps30
    go_wp2_with fail
    go_loopw [0] (fun sv wr => (sv = .string ⟨#[98]⟩ ∨ sv = .string ⟨#[]⟩) ∧ wr = w) (fun sv _ => match sv with | .string b => b.size | _ => 0)
    case atStart => exact ⟨.inl rfl, rfl⟩
    case round =>
      obtain ⟨rfl | rfl, rfl⟩ := hrel
      · go_wp2_with fail
        exact ⟨⟨.inr rfl, trivial⟩, by decide⟩
      · go_wp2_with fail
        go_ret
        exact ⟨rfl, rfl⟩
  · go_enter Tryd.func30, Tryd.ntmps30
    go_wp2_with fail
    go_loopw [0] (fun sv wr => (sv = .string ⟨#[105]⟩ ∨ sv = .string ⟨#[]⟩) ∧ wr = w) (fun sv _ => match sv with | .string b => b.size | _ => 0)
    case atStart => exact ⟨.inl rfl, rfl⟩
    case round =>
      obtain ⟨rfl | rfl, rfl⟩ := hrel
      · go_wp2_with fail
        exact ⟨⟨.inr rfl, trivial⟩, by decide⟩
      · go_wp2_with fail
        go_ret
        exact ⟨rfl, rfl⟩
  · go_enter Tryd.func30, Tryd.ntmps30
    go_wp2_with fail
    go_loopw [0] (fun sv wr => (sv = .string ⟨#[112]⟩ ∨ sv = .string ⟨#[]⟩) ∧ wr = w) (fun sv _ => match sv with | .string b => b.size | _ => 0)
    case atStart => exact ⟨.inl rfl, rfl⟩
    case round =>
      obtain ⟨rfl | rfl, rfl⟩ := hrel
      · go_wp2_with fail
        exact ⟨⟨.inr rfl, trivial⟩, by decide⟩
      · go_wp2_with fail
        go_ret
        exact ⟨rfl, rfl⟩
theorem textValid_one (c : UInt8) (hc : Ltr c) (w : World) : Calls Tryd.prog 42 #[.string ⟨#[c]⟩] w fun e w' => e = .returned (.bool true) ∧ w' = w := by
  have H := valid_one c hc w
  go_enter Tryd.func42, Tryd.ntmps42
  go_wp2_with fail
  refine H.mono ?_
  rintro e w' ⟨rfl, rfl⟩
  go_wp2_with fail
  go_ret
  exact ⟨rfl, rfl⟩
end Go.Proofs.YtfelmdkeaacfeaaDoor.W
