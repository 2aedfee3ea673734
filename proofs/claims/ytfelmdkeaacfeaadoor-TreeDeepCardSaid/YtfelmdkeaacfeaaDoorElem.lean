/- The contracts of elementName at one-letter names, of attrs and the searches at no attributes, and of formed. -/
import Derived.Test.YtfelmdkeaacfeaaDoorName
import Derived.Test.YtfelmdkeaacfeaaDoorLow
namespace Go.Proofs.YtfelmdkeaacfeaaDoor.W
open Go.RowKit
set_option linter.unusedVariables false
set_option linter.unusedSimpArgs false

theorem ascii_of {l : List UInt8} (h : l.all (fun b => decide (b.toNat < 128)) = true) : ∀ (j : Nat) (b : UInt8), l[j]? = some b → b.toNat < 128 := fun j b hj => by
  have := List.all_eq_true.1 h b (List.mem_of_getElem? hj)
  simpa using this
theorem lower_one (c : UInt8) (hc : Ltr c) (w : World) : Calls Tryd.prog 27 #[.string ⟨#[c]⟩] w fun e w' => e = .returned (.bool true) ∧ Below w.heap.size w w' := by
  have HV := Lib.hid (textValid_one c hc w)
  have HL := Lib.hid (lower_bytes ⟨#[c]⟩ (by show 1 ≤ _; omega) w)
  have hl : (List.map lowB (⟨#[c]⟩ : ByteArray).data.toList).toArray = #[c] := by rcases hc with rfl | rfl | rfl <;> rfl
  rw [hl] at HL
  clear hl hc
  go_enter Tryd.func27, Tryd.ntmps27
  go_wp2_with fail
  refine HV.out.mono ?_
  rintro e w' ⟨rfl, hw⟩
  subst hw
  go_wp2_with fail
  refine HL.out.mono ?_
  rintro e w2 ⟨rfl, hb⟩
  go_wp2_with fail
  go_ret
  exact ⟨rfl, hb⟩

set_option maxRecDepth 100000 in
theorem elementName_98 (w : World) : Calls Tryd.prog 11 #[.string ⟨#[98]⟩] w fun e w' => e = .returned (.bool true) ∧ Below w.heap.size w w' := by
  have HV := Lib.hid (lower_one 98 (by unfold Ltr; decide) w)
  have HC := Lib.hid (fun w => Tryd.strings_ContainsAny_laid ⟨#[98]⟩ ⟨#[9, 10, 12, 13, 32, 47, 62]⟩ w (by decide) (by decide) (ascii_of (by decide)) (ascii_of (by decide)))
  have hl : Lib.containsAny (⟨#[98]⟩ : ByteArray).data.toList (⟨#[9, 10, 12, 13, 32, 47, 62]⟩ : ByteArray).data.toList = false := by rfl
  simp only [hl] at HC
  clear hl
  go_enter Tryd.func11, Tryd.ntmps11
  go_wp2_with fail
  refine HV.out.mono ?_
  rintro e w1 ⟨rfl, hb1⟩
  go_wp2_with fail
  refine (HC.out _).mono ?_
  rintro e w2 ⟨rfl, hb2⟩
  go_wp2_with fail
  go_ret
  exact ⟨rfl, bthen hb1 hb2⟩

set_option maxRecDepth 100000 in
theorem elementName_105 (w : World) : Calls Tryd.prog 11 #[.string ⟨#[105]⟩] w fun e w' => e = .returned (.bool true) ∧ Below w.heap.size w w' := by
  have HV := Lib.hid (lower_one 105 (by unfold Ltr; decide) w)
  have HC := Lib.hid (fun w => Tryd.strings_ContainsAny_laid ⟨#[105]⟩ ⟨#[9, 10, 12, 13, 32, 47, 62]⟩ w (by decide) (by decide) (ascii_of (by decide)) (ascii_of (by decide)))
  have hl : Lib.containsAny (⟨#[105]⟩ : ByteArray).data.toList (⟨#[9, 10, 12, 13, 32, 47, 62]⟩ : ByteArray).data.toList = false := by rfl
  simp only [hl] at HC
  clear hl
  go_enter Tryd.func11, Tryd.ntmps11
  go_wp2_with fail
  refine HV.out.mono ?_
  rintro e w1 ⟨rfl, hb1⟩
  go_wp2_with fail
  refine (HC.out _).mono ?_
  rintro e w2 ⟨rfl, hb2⟩
  go_wp2_with fail
  go_ret
  exact ⟨rfl, bthen hb1 hb2⟩

set_option maxRecDepth 100000 in
theorem elementName_112 (w : World) : Calls Tryd.prog 11 #[.string ⟨#[112]⟩] w fun e w' => e = .returned (.bool true) ∧ Below w.heap.size w w' := by
  have HV := Lib.hid (lower_one 112 (by unfold Ltr; decide) w)
  have HC := Lib.hid (fun w => Tryd.strings_ContainsAny_laid ⟨#[112]⟩ ⟨#[9, 10, 12, 13, 32, 47, 62]⟩ w (by decide) (by decide) (ascii_of (by decide)) (ascii_of (by decide)))
  have hl : Lib.containsAny (⟨#[112]⟩ : ByteArray).data.toList (⟨#[9, 10, 12, 13, 32, 47, 62]⟩ : ByteArray).data.toList = false := by rfl
  simp only [hl] at HC
  clear hl
  go_enter Tryd.func11, Tryd.ntmps11
  go_wp2_with fail
  refine HV.out.mono ?_
  rintro e w1 ⟨rfl, hb1⟩
  go_wp2_with fail
  refine (HC.out _).mono ?_
  rintro e w2 ⟨rfl, hb2⟩
  go_wp2_with fail
  go_ret
  exact ⟨rfl, bthen hb1 hb2⟩

theorem elementName_one (c : UInt8) (hc : Ltr c) (w : World) : Calls Tryd.prog 11 #[.string ⟨#[c]⟩] w fun e w' => e = .returned (.bool true) ∧ Below w.heap.size w w' := by
  rcases hc with rfl | rfl | rfl
  · exact elementName_98 w
  · exact elementName_105 w
  · exact elementName_112 w
set_option maxRecDepth 100000 in
theorem attrs_nil (w : World) : Calls Tryd.prog 12 #[.slice none 0 0] w fun e w' => e = .returned (.bool true) ∧ Below w.heap.size w w' := by
  have hmm := @run_makeMap Tryd.prog
  go_enter Tryd.func12, Tryd.ntmps12
  go_wp2_with fail
  go_loopw [9] (fun iv wr => iv = .int .i64 0 ∧ Below w.heap.size w wr) (fun _ _ => 0)
  case atStart => exact ⟨rfl, (Below.refl _ _).alloc (Nat.le_refl _) _⟩
  case round =>
    obtain ⟨rfl, hB⟩ := hrel
    go_wp2_with fail
    go_ret
    exact ⟨rfl, hB⟩
theorem long_any (s : ByteArray) (hs : s.size ≤ 9000000000000000000) (w : World) : Calls Tryd.prog 15 #[.string s] w fun e w' => e = .returned (.bool (decide (1048576 < s.size))) ∧ w' = w := by
  by_cases h : 1048576 < s.size
  · have d1 : decide ((1048576 : Int) < (s.size : Int)) = true := by simp; omega
    go_enter Tryd.func15, Tryd.ntmps15
    go_wp2_with fail
    rw [decide_eq_true h]
    go_ret
    exact ⟨rfl, rfl⟩
  · have d1 : decide ((1048576 : Int) < (s.size : Int)) = false := by simp; omega
    go_enter Tryd.func15, Tryd.ntmps15
    go_wp2_with fail
    rw [decide_eq_false h]
    go_ret
    exact ⟨rfl, rfl⟩
set_option maxRecDepth 100000 in
theorem indexFunc_nil (f : Value) (w : World) : Calls Tryd.prog 33 #[.slice none 0 0, f] w fun e w' => e = .returned (.int .i64 (-1)) ∧ w' = w := by
  go_enter Tryd.func33, Tryd.ntmps33
  go_wp2_with fail
  go_loopw [8] (fun iv wr => iv = .int .i64 0 ∧ wr = w) (fun _ _ => 0)
  case atStart => exact ⟨rfl, rfl⟩
  case round =>
    obtain ⟨rfl, rfl⟩ := hrel
    go_wp2_with fail
    go_ret
    exact ⟨rfl, rfl⟩
theorem containsFunc_nil (f : Value) (w : World) : Calls Tryd.prog 16 #[.slice none 0 0, f] w fun e w' => e = .returned (.bool false) ∧ w' = w := by
  have H := Lib.hid (indexFunc_nil f w)
  go_enter Tryd.func16, Tryd.ntmps16
  go_wp2_with fail
  refine H.out.mono ?_
  rintro e w' ⟨rfl, hw⟩
  subst hw
  go_wp2_with fail
  go_ret
  exact ⟨rfl, rfl⟩
end Go.Proofs.YtfelmdkeaacfeaaDoor.W
