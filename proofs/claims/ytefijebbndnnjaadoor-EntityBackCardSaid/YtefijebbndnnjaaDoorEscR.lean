/- Escape of the reference, for texts and for attributes. -/
import Derived.Test.YtefijebbndnnjaaDoorRepO
set_option linter.unusedVariables false
set_option linter.unusedSimpArgs false
namespace Go.Proofs.YtefijebbndnnjaaDoor.W
open Go.RowKit

/-- the loop of the reference's Escape -/
def EsR (w : World) (T : UInt8 → Option (List UInt8)) (l : List UInt8) (ov iv : Value) (wr : World) : Prop :=
  ∃ (i : Nat) (o : ByteArray), i ≤ l.length ∧ ov = .string o ∧ iv = .int .i64 (i : Int) ∧ o.data.toList = escL T (l.take i) ∧ Below w.heap.size w wr
theorem ext1 (s : ByteArray) (i : Nat) (h : i < s.size) : s.extract i (i + 1) = ⟨#[s[i]]⟩ := by
  apply ByteArray.ext
  apply Array.toList_inj.1
  rw [Lib.extract_data, drop_at s i h, Nat.add_sub_cancel_left]
  rfl
theorem other {L : List (UInt8 × List UInt8)} {c : UInt8} (h : ∀ p ∈ L, p.1 ≠ c) : tabOf L c = none := by
  unfold tabOf
  rw [Option.map_eq_none_iff, List.find?_eq_none]
  intro p hp
  simpa using h p hp

set_option maxRecDepth 100000 in
set_option maxHeartbeats 4000000 in
theorem escR_text (s : ByteArray) (w : World) (hs : s.size ≤ 1000000) :
    Calls Tryd.prog 21 #[.string s, .bool false] w fun e w' => e = .returned (.string ⟨(escL (tabOf lisT) s.data.toList).toArray⟩) ∧ Below w.heap.size w w' := by
  have hl : s.data.toList.length = s.size := (Lib.size_eq s).symm
  go_enter Tryd.func21, Tryd.ntmps21
  go_wp2_with fail
  go_loopw [5, 6] (fun ov iv wr => EsR w (tabOf lisT) s.data.toList ov iv wr) (fun _ iv _ => s.size - (intOf iv).toNat)
  case atStart => exact ⟨0, ⟨#[]⟩, by omega, rfl, rfl, rfl, Below.refl _ _⟩
  case round =>
    obtain ⟨i, o, hi, rfl, rfl, ho, hB⟩ := hrel
    rw [hl] at hi
    by_cases hlt : i < s.size
    · have hex := ext1 s i hlt
      have hei := escL_take (T := tabOf lisT) (l := s.data.toList) (i := i) (by omega)
      rw [show s.data.toList[i]'(by omega) = s[i] from rfl] at hei
      have hol : o.size ≤ 10000000 := by
        have := escL_le tblT (s.data.toList.take i)
        rw [List.length_take] at this
        rw [Lib.size_eq, ho]; omega
      have HO := Lib.hid ho
      clear ho
      generalize s[i] = c at *
      by_cases h38 : c = 38
      · subst h38
        have HE := Lib.hid hei
        clear hei
        go_wp2_with fail
        exact ⟨⟨i + 1, _, by omega, rfl, by go_num, by rw [ByteArray.data_append, Array.toList_append, HO.out, HE.out]; rfl, hB⟩, by simp [intOf]; omega⟩
      by_cases h13 : c = 13
      · subst h13
        have HE := Lib.hid hei
        clear hei
        go_wp2_with fail
        exact ⟨⟨i + 1, _, by omega, rfl, by go_num, by rw [ByteArray.data_append, Array.toList_append, HO.out, HE.out]; rfl, hB⟩, by simp [intOf]; omega⟩
      by_cases h60 : c = 60
      · subst h60
        have HE := Lib.hid hei
        clear hei
        go_wp2_with fail
        exact ⟨⟨i + 1, _, by omega, rfl, by go_num, by rw [ByteArray.data_append, Array.toList_append, HO.out, HE.out]; rfl, hB⟩, by simp [intOf]; omega⟩
      by_cases h62 : c = 62
      · subst h62
        have HE := Lib.hid hei
        clear hei
        go_wp2_with fail
        exact ⟨⟨i + 1, _, by omega, rfl, by go_num, by rw [ByteArray.data_append, Array.toList_append, HO.out, HE.out]; rfl, hB⟩, by simp [intOf]; omega⟩
      by_cases h34 : c = 34
      · subst h34
        have HE := Lib.hid hei
        clear hei
        go_wp2_with fail
        exact ⟨⟨i + 1, _, by omega, rfl, by go_num, by rw [ByteArray.data_append, Array.toList_append, HO.out, HE.out]; rfl, hB⟩, by simp [intOf]; omega⟩
      have HE := Lib.hid (show escL (tabOf lisT) (s.data.toList.take (i + 1)) = escL (tabOf lisT) (s.data.toList.take i) ++ [c] by
        rw [hei]; unfold esc1; rw [other (by
          intro p hp
          simp only [lisT, List.mem_cons, List.not_mem_nil, or_false] at hp
          rcases hp with rfl | rfl | rfl | rfl <;> exact Ne.symm (by assumption))])
      clear hei
      have e38 : (c == (38 : UInt8)) = false := by simpa using h38
      have e13 : (c == (13 : UInt8)) = false := by simpa using h13
      have e60 : (c == (60 : UInt8)) = false := by simpa using h60
      have e62 : (c == (62 : UInt8)) = false := by simpa using h62
      have e34 : (c == (34 : UInt8)) = false := by simpa using h34
      go_wp2_with fail
      all_goals (exact ⟨⟨i + 1, _, by omega, rfl, by go_num, by rw [ByteArray.data_append, Array.toList_append, HO.out, HE.out], hB⟩, by simp [intOf]; omega⟩)
    · obtain rfl : i = s.size := by omega
      have HD := Lib.hid (show o = ⟨(escL (tabOf lisT) s.data.toList).toArray⟩ by
        rw [← hl, List.take_length] at ho
        apply ByteArray.ext
        apply Array.toList_inj.1
        exact ho)
      clear ho
      go_wp2_with fail
      go_ret
      exact ⟨by rw [← HD.out]; rfl, hB⟩

set_option maxRecDepth 100000 in
set_option maxHeartbeats 4000000 in
theorem escR_attr (s : ByteArray) (w : World) (hs : s.size ≤ 1000000) :
    Calls Tryd.prog 21 #[.string s, .bool true] w fun e w' => e = .returned (.string ⟨(escL (tabOf lisA) s.data.toList).toArray⟩) ∧ Below w.heap.size w w' := by
  have hl : s.data.toList.length = s.size := (Lib.size_eq s).symm
  go_enter Tryd.func21, Tryd.ntmps21
  go_wp2_with fail
  go_loopw [5, 6] (fun ov iv wr => EsR w (tabOf lisA) s.data.toList ov iv wr) (fun _ iv _ => s.size - (intOf iv).toNat)
  case atStart => exact ⟨0, ⟨#[]⟩, by omega, rfl, rfl, rfl, Below.refl _ _⟩
  case round =>
    obtain ⟨i, o, hi, rfl, rfl, ho, hB⟩ := hrel
    rw [hl] at hi
    by_cases hlt : i < s.size
    · have hex := ext1 s i hlt
      have hei := escL_take (T := tabOf lisA) (l := s.data.toList) (i := i) (by omega)
      rw [show s.data.toList[i]'(by omega) = s[i] from rfl] at hei
      have hol : o.size ≤ 10000000 := by
        have := escL_le tblA (s.data.toList.take i)
        rw [List.length_take] at this
        rw [Lib.size_eq, ho]; omega
      have HO := Lib.hid ho
      clear ho
      generalize s[i] = c at *
      by_cases h38 : c = 38
      · subst h38
        have HE := Lib.hid hei
        clear hei
        go_wp2_with fail
        exact ⟨⟨i + 1, _, by omega, rfl, by go_num, by rw [ByteArray.data_append, Array.toList_append, HO.out, HE.out]; rfl, hB⟩, by simp [intOf]; omega⟩
      by_cases h13 : c = 13
      · subst h13
        have HE := Lib.hid hei
        clear hei
        go_wp2_with fail
        exact ⟨⟨i + 1, _, by omega, rfl, by go_num, by rw [ByteArray.data_append, Array.toList_append, HO.out, HE.out]; rfl, hB⟩, by simp [intOf]; omega⟩
      by_cases h60 : c = 60
      · subst h60
        have HE := Lib.hid hei
        clear hei
        go_wp2_with fail
        exact ⟨⟨i + 1, _, by omega, rfl, by go_num, by rw [ByteArray.data_append, Array.toList_append, HO.out, HE.out]; rfl, hB⟩, by simp [intOf]; omega⟩
      by_cases h62 : c = 62
      · subst h62
        have HE := Lib.hid hei
        clear hei
        go_wp2_with fail
        exact ⟨⟨i + 1, _, by omega, rfl, by go_num, by rw [ByteArray.data_append, Array.toList_append, HO.out, HE.out]; rfl, hB⟩, by simp [intOf]; omega⟩
      by_cases h34 : c = 34
      · subst h34
        have HE := Lib.hid hei
        clear hei
        go_wp2_with fail
        exact ⟨⟨i + 1, _, by omega, rfl, by go_num, by rw [ByteArray.data_append, Array.toList_append, HO.out, HE.out]; rfl, hB⟩, by simp [intOf]; omega⟩
      have HE := Lib.hid (show escL (tabOf lisA) (s.data.toList.take (i + 1)) = escL (tabOf lisA) (s.data.toList.take i) ++ [c] by
        rw [hei]; unfold esc1; rw [other (by
          intro p hp
          simp only [lisA, List.mem_cons, List.not_mem_nil, or_false] at hp
          rcases hp with rfl | rfl | rfl <;> exact Ne.symm (by assumption))])
      clear hei
      have e38 : (c == (38 : UInt8)) = false := by simpa using h38
      have e13 : (c == (13 : UInt8)) = false := by simpa using h13
      have e60 : (c == (60 : UInt8)) = false := by simpa using h60
      have e62 : (c == (62 : UInt8)) = false := by simpa using h62
      have e34 : (c == (34 : UInt8)) = false := by simpa using h34
      go_wp2_with fail
      all_goals (exact ⟨⟨i + 1, _, by omega, rfl, by go_num, by rw [ByteArray.data_append, Array.toList_append, HO.out, HE.out], hB⟩, by simp [intOf]; omega⟩)
    · obtain rfl : i = s.size := by omega
      have HD := Lib.hid (show o = ⟨(escL (tabOf lisA) s.data.toList).toArray⟩ by
        rw [← hl, List.take_length] at ho
        apply ByteArray.ext
        apply Array.toList_inj.1
        exact ho)
      clear ho
      go_wp2_with fail
      go_ret
      exact ⟨by rw [← HD.out]; rfl, hB⟩
end Go.Proofs.YtefijebbndnnjaaDoor.W
