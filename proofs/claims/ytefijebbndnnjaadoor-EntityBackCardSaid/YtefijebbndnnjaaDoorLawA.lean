/- awake, and the walk of EntityNumbers. -/
import Derived.Test.YtefijebbndnnjaaDoorDec
import Derived.Test.YtefijebbndnnjaaDoorNumR
set_option linter.unusedVariables false
namespace Go.Proofs.YtefijebbndnnjaaDoor.W
open Go.RowKit

theorem dec_awake : dec [97, 38, 108, 116, 59, 98] = [97, 60, 98] := by
  have h1 : nextE [38, 108, 116, 59, 98] = ([60], 4) := by decide +kernel
  rw [dec_not _ (by decide), dec_some (by rw [h1]; decide), h1]
  show _ :: ([60] ++ dec [98]) = _
  rw [dec_not _ (by decide), dec_nil]
  rfl

set_option maxRecDepth 100000 in
set_option maxHeartbeats 1000000 in
theorem awake_any (w : World) (hL : Laid w) :
    Calls Tryd.prog 10 #[] w fun e w' => e = .returned (.bool true) ∧ Below w.heap.size w w' := by
  have HD := Lib.hid (decode_any ⟨#[97, 38, 108, 116, 59, 98]⟩ w (by decide) hL)
  rw [show (⟨#[97, 38, 108, 116, 59, 98]⟩ : ByteArray).data.toList = [97, 38, 108, 116, 59, 98] from rfl, dec_awake] at HD
  clear hL
  go_enter Tryd.func10, Tryd.ntmps10
  go_wp2_with fail
  refine HD.out.mono ?_
  rintro e w1 ⟨rfl, hb⟩
  go_wp2_with fail
  go_ret
  exact ⟨rfl, hb⟩

set_option maxRecDepth 100000 in
set_option maxHeartbeats 1000000 in
theorem numbers_any (n : Int) (hn : -9223372036854775808 ≤ n ∧ n ≤ 9223372036854775807) (w : World) (hL : Laid w) :
    Calls Tryd.prog 3 #[.int .i64 n] w fun e w' => e = .returned (.bool true) ∧ Below w.heap.size w w' := by
  have HA := Lib.hid (awake_any w hL)
  have HL := Lib.hid hL
  have HN := Lib.hid (fun wx hx => number_any n wx hn hx)
  have HR := Lib.hid (fun wx => numberR_any n wx hn)
  rw [num_eq] at HN
  clear hL hn
  go_enter Tryd.func3, Tryd.ntmps3
  go_wp2_with fail
  refine HA.out.mono ?_
  rintro e w1 ⟨rfl, hb⟩
  go_wp2_with fail
  refine (HN.out _ (HL.out.below hb)).mono ?_
  rintro e w2 ⟨rfl, hb2⟩
  go_wp2_with fail
  refine (HR.out _).mono ?_
  rintro e w3 ⟨rfl, hb3⟩
  have hb13 := hb.trans ((hb2.mono hb.size).trans (hb3.mono (Nat.le_trans hb.size hb2.size)))
  go_wp2_with fail
  all_goals go_ret
  all_goals exact ⟨by simp, hb13⟩
end Go.Proofs.YtefijebbndnnjaaDoor.W
