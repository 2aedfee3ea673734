/- The contract of Next. -/
import Derived.Test.YtefijebbndnnjaaDoorNextP
import Derived.Test.YtefijebbndnnjaaDoorLook
set_option linter.unusedVariables false
namespace Go.Proofs.YtefijebbndnnjaaDoor.W
open Go.RowKit

/-- HasPrefix at a text whose answer is known -/
theorem prefix_is (s p : ByteArray) (b : Bool) (h : Lib.hasPrefix s.data.toList p.data.toList = b) (wx : World) :
    Calls Tryd.prog 24 #[.string s, .string p] wx fun e w' => e = .returned (.bool b) ∧ w' = wx := by
  rw [← h]; exact Tryd.strings_HasPrefix s p wx

set_option maxRecDepth 100000 in
set_option maxHeartbeats 4000000 in
/-- a hexadecimal reference -/
theorem next_hex (s : ByteArray) (w : World) (hs : s.size ≤ 1000000) (hL : Laid w) (h : (Lib.hasPrefix s.data.toList [38, 35, 120] || Lib.hasPrefix s.data.toList [38, 35, 88]) = true) (h3 : 3 ≤ s.size) :
    Calls Tryd.prog 13 #[.string s] w fun e w' => e = .returned (.tuple #[.string ⟨(numericP s.data.toList 3 16).1.toArray⟩, .int .i64 (numericP s.data.toList 3 16).2]) ∧ Below w.heap.size w w' := by
  have HN := Lib.hid (numeric_any s 3 16 (Or.inr rfl) w hs h3 hL)
  clear hL
  cases hx : Lib.hasPrefix s.data.toList [38, 35, 120] with
  | true =>
    have HX := Lib.hid (prefix_is s ⟨#[38, 35, 120]⟩ true hx)
    clear hx h
    go_enter Tryd.func13, Tryd.ntmps13
    go_wp2_with (first | (go_at_call 24; refine (HX.out _).mono ?_; rintro e w1 ⟨rfl, rfl⟩) | fail)
    refine HN.out.mono ?_
    rintro e w2 ⟨rfl, hb⟩
    go_wp2_with fail
    go_ret2
    exact ⟨rfl, hb⟩
  | false =>
    rw [hx, Bool.false_or] at h
    have HX := Lib.hid (prefix_is s ⟨#[38, 35, 120]⟩ false hx)
    have HY := Lib.hid (prefix_is s ⟨#[38, 35, 88]⟩ true h)
    clear hx h
    go_enter Tryd.func13, Tryd.ntmps13
    go_wp2_with (first | (go_at_call 24; first | (refine (HX.out _).mono ?_; rintro e w1 ⟨rfl, rfl⟩) | (refine (HY.out _).mono ?_; rintro e w1 ⟨rfl, rfl⟩)) | fail)
    refine HN.out.mono ?_
    rintro e w2 ⟨rfl, hb⟩
    go_wp2_with fail
    go_ret2
    exact ⟨rfl, hb⟩

set_option maxRecDepth 100000 in
set_option maxHeartbeats 4000000 in
/-- a decimal reference -/
theorem next_dec (s : ByteArray) (w : World) (hs : s.size ≤ 1000000) (hL : Laid w) (h1 : Lib.hasPrefix s.data.toList [38, 35, 120] = false) (h2 : Lib.hasPrefix s.data.toList [38, 35, 88] = false) (h : Lib.hasPrefix s.data.toList [38, 35] = true) (h3 : 2 ≤ s.size) :
    Calls Tryd.prog 13 #[.string s] w fun e w' => e = .returned (.tuple #[.string ⟨(numericP s.data.toList 2 10).1.toArray⟩, .int .i64 (numericP s.data.toList 2 10).2]) ∧ Below w.heap.size w w' := by
  have HN := Lib.hid (numeric_any s 2 10 (Or.inl rfl) w hs h3 hL)
  have HX := Lib.hid (prefix_is s ⟨#[38, 35, 120]⟩ false h1)
  have HY := Lib.hid (prefix_is s ⟨#[38, 35, 88]⟩ false h2)
  have HZ := Lib.hid (prefix_is s ⟨#[38, 35]⟩ true h)
  clear hL h1 h2 h
  go_enter Tryd.func13, Tryd.ntmps13
  go_wp2_with (first | (go_at_call 24; first | (refine (HX.out _).mono ?_; rintro e w1 ⟨rfl, rfl⟩) | (refine (HY.out _).mono ?_; rintro e w1 ⟨rfl, rfl⟩) | (refine (HZ.out _).mono ?_; rintro e w1 ⟨rfl, rfl⟩)) | fail)
  refine HN.out.mono ?_
  rintro e w2 ⟨rfl, hb⟩
  go_wp2_with fail
  go_ret2
  exact ⟨rfl, hb⟩

set_option maxRecDepth 100000 in
set_option maxHeartbeats 4000000 in
/-- no reference -/
theorem next_no (s : ByteArray) (w : World) (h1 : Lib.hasPrefix s.data.toList [38, 35, 120] = false) (h2 : Lib.hasPrefix s.data.toList [38, 35, 88] = false) (h3 : Lib.hasPrefix s.data.toList [38, 35] = false) (h : Lib.hasPrefix s.data.toList [38] = false) :
    Calls Tryd.prog 13 #[.string s] w fun e w' => e = .returned (.tuple #[.string ⟨#[]⟩, .int .i64 0]) ∧ Below w.heap.size w w' := by
  have HX := Lib.hid (prefix_is s ⟨#[38, 35, 120]⟩ false h1)
  have HY := Lib.hid (prefix_is s ⟨#[38, 35, 88]⟩ false h2)
  have HZ := Lib.hid (prefix_is s ⟨#[38, 35]⟩ false h3)
  have HA := Lib.hid (prefix_is s ⟨#[38]⟩ false h)
  clear h1 h2 h3 h
  go_enter Tryd.func13, Tryd.ntmps13
  go_wp2_with (first | (go_at_call 24; first | (refine (HX.out _).mono ?_; rintro e w1 ⟨rfl, rfl⟩) | (refine (HY.out _).mono ?_; rintro e w1 ⟨rfl, rfl⟩) | (refine (HZ.out _).mono ?_; rintro e w1 ⟨rfl, rfl⟩) | (refine (HA.out _).mono ?_; rintro e w1 ⟨rfl, rfl⟩)) | fail)
  go_ret2
  exact ⟨rfl, Below.refl _ _⟩
end Go.Proofs.YtefijebbndnnjaaDoor.W
