/- The walks of EntityNext and EntityDecodes; Decode of the reference. -/
import Derived.Test.YtefijebbndnnjaaDoorLawA
import Derived.Test.YtefijebbndnnjaaDoorRefN
set_option linter.unusedVariables false
set_option linter.unusedSimpArgs false
namespace Go.Proofs.YtefijebbndnnjaaDoor.W
open Go.RowKit

set_option maxRecDepth 100000 in
set_option maxHeartbeats 1000000 in
theorem next_law (s : ByteArray) (hs : s.size ≤ 9223372036854775807) (w : World) (hL : Laid w) :
    Calls Tryd.prog 4 #[.string s] w fun e w' => e = .returned (.bool true) ∧ Below w.heap.size w w' := by
  have HL := Lib.hid hL
  have HA := Lib.hid awake_any
  clear hL
  by_cases h : s.size ≤ 1000
  · have HN := Lib.hid (fun wx hx => next_any s wx (by omega) hx)
    have HR := Lib.hid (fun wx => nextR_any s wx (by omega))
    generalize nextE s.data.toList = x at HN HR
    go_enter Tryd.func4, Tryd.ntmps4
    go_wp2_with fail
    refine (HA.out _ HL.out).mono ?_
    rintro e w1 ⟨rfl, hb⟩
    go_wp2_with fail
    refine (HN.out _ (HL.out.below hb)).mono ?_
    rintro e w2 ⟨rfl, hb2⟩
    go_wp2_with fail
    refine (HR.out _).mono ?_
    rintro e w3 ⟨rfl, hb3⟩
    have hb13 := hb.trans ((hb2.mono hb.size).trans (hb3.mono (Nat.le_trans hb.size hb2.size)))
    go_wp2_with fail
    all_goals go_ret
    all_goals exact ⟨by simp, hb13⟩
  · have h' : (1000 : Int) < s.size := by omega
    go_enter Tryd.func4, Tryd.ntmps4
    go_wp2_with fail
    refine (HA.out _ HL.out).mono ?_
    rintro e w1 ⟨rfl, hb⟩
    go_wp2_with fail
    refine (HA.out _ (HL.out.below hb)).mono ?_
    rintro e w2 ⟨rfl, hb2⟩
    have hb12 := hb.trans (hb2.mono hb.size)
    go_wp2_with fail
    all_goals go_ret
    all_goals exact ⟨by simp, hb12⟩

/-- the loop of the reference's Decode -/
def DcRR (w : World) (l : List UInt8) (sv ov : Value) (wr : World) : Prop :=
  ∃ (s' o : ByteArray), sv = .string s' ∧ ov = .string o ∧ s'.size ≤ l.length ∧ o.data.toList ++ dec s'.data.toList = dec l ∧ o.size + 4 * s'.size ≤ 4 * l.length ∧ Below w.heap.size w wr

set_option maxRecDepth 100000 in
set_option maxHeartbeats 4000000 in
theorem decodeR_any (s : ByteArray) (w : World) (hs : s.size ≤ 1000000) :
    Calls Tryd.prog 16 #[.string s] w fun e w' => e = .returned (.string ⟨(dec s.data.toList).toArray⟩) ∧ Below w.heap.size w w' := by
  have hl : s.data.toList.length ≤ 1000000 := by rw [← Lib.size_eq]; exact hs
  go_enter Tryd.func16, Tryd.ntmps16
  go_wp2_with fail
  go_loopw [0, 3] (fun sv ov wr => DcRR w s.data.toList sv ov wr) (fun sv _ _ => strSize sv)
  case atStart =>
    exact ⟨s, ⟨#[]⟩, rfl, rfl, by rw [← Lib.size_eq]; exact Nat.le_refl _, rfl, by rw [← Lib.size_eq]; show 0 + _ ≤ _; omega, Below.refl _ _⟩
  case round =>
    obtain ⟨s', o, rfl, rfl, hs1, hdec, hlen, hB⟩ := hrel
    by_cases hz : s'.size = 0
    · have hnil : s'.data.toList = [] := List.eq_nil_of_length_eq_zero (by rw [← Lib.size_eq]; exact hz)
      have HD := Lib.hid (show o.data.toList = dec s.data.toList by rw [← hdec, hnil, dec_nil, List.append_nil])
      have hzi : (s'.size : Int) = 0 := by omega
      clear hdec hnil
      go_wp2_with fail
      go_ret
      exact ⟨by rw [← HD.out]; rfl, hB⟩
    · obtain ⟨c, t, hct⟩ : ∃ c t, s'.data.toList = c :: t := by
        cases e : s'.data.toList with
        | nil => rw [Lib.size_eq, e] at hz; exact absurd rfl hz
        | cons c t => exact ⟨c, t, rfl⟩
      have hpos : 0 < s'.size := by omega
      have HN := Lib.hid (fun wx => nextR_any s' wx (by omega))
      have hle := nextE_le s'.data.toList
      rw [← Lib.size_eq] at hle
      by_cases hn : (nextE s'.data.toList).2 = 0
      · have hd : dec s'.data.toList = [c] ++ dec (s'.extract 1 s'.size).data.toList := by
          rw [Lib.extract_data, List.take_of_length_le (by rw [List.length_drop, ← Lib.size_eq]; exact Nat.le_refl _), hct, dec_zero (by rw [← hct]; exact hn)]; rfl
        have he : (s'.extract 0 1).data.toList = [c] := by rw [Lib.extract_data, hct]; rfl
        have HD := Lib.hid (show (o ++ s'.extract 0 1).data.toList ++ dec (s'.extract 1 s'.size).data.toList = dec s.data.toList by rw [← hdec, hd, ByteArray.data_append, Array.toList_append, he, List.append_assoc])
        have HZ := Lib.hid (show (o ++ s'.extract 0 1).size = o.size + 1 ∧ (s'.extract 1 s'.size).size = s'.size - 1 by rw [ByteArray.size_append, ByteArray.size_extract, ByteArray.size_extract]; omega)
        rw [hn] at HN
        generalize (nextE s'.data.toList).1 = nc at HN
        clear hdec hd he hct hn hle
        go_wp2_with fail
        refine (HN.out _).mono ?_
        rintro e w2 ⟨rfl, hb2⟩
        go_wp2_with fail
        have hz1 := HZ.out.1
        have hz2 := HZ.out.2
        exact ⟨⟨_, _, rfl, rfl, by omega, HD.out, by omega, hB.trans (hb2.mono hB.size)⟩, by show (s'.extract 1 s'.size).size < s'.size; omega⟩
      · have hd : dec s'.data.toList = (nextE s'.data.toList).1 ++ dec (s'.extract (nextE s'.data.toList).2 s'.size).data.toList := by
          rw [Lib.extract_data, List.take_of_length_le (by rw [List.length_drop, ← Lib.size_eq]; exact Nat.le_refl _), dec_some hn]
        have HD := Lib.hid (show (o ++ ⟨(nextE s'.data.toList).1.toArray⟩).data.toList ++ dec (s'.extract (nextE s'.data.toList).2 s'.size).data.toList = dec s.data.toList by rw [← hdec, hd, ByteArray.data_append, Array.toList_append, List.append_assoc])
        have HZ := Lib.hid (show (o ++ ⟨(nextE s'.data.toList).1.toArray⟩).size = o.size + (nextE s'.data.toList).1.length ∧ (s'.extract (nextE s'.data.toList).2 s'.size).size = s'.size - (nextE s'.data.toList).2 by rw [ByteArray.size_append, ByteArray.size_extract]; exact ⟨rfl, by omega⟩)
        clear hdec hd
        generalize nextE s'.data.toList = nx at HN hle HD HZ hn
        obtain ⟨nc, nn⟩ := nx
        have hni : ¬ ((nn : Int) = 0) := fun e => hn (by simpa using e)
        have hl1 : nn ≤ s'.size := hle.1
        have hl2 : nc.length ≤ 4 := hle.2
        clear hn hle
        go_wp2_with fail
        refine (HN.out _).mono ?_
        rintro e w2 ⟨rfl, hb2⟩
        go_wp2_with fail
        have hz1 := HZ.out.1
        have hz2 := HZ.out.2
        exact ⟨⟨_, _, rfl, rfl, by omega, HD.out, by omega, hB.trans (hb2.mono hB.size)⟩, by show (s'.extract nn s'.size).size < s'.size; omega⟩

set_option maxRecDepth 100000 in
set_option maxHeartbeats 1000000 in
theorem decodes_law (s : ByteArray) (hs : s.size ≤ 9223372036854775807) (w : World) (hL : Laid w) :
    Calls Tryd.prog 5 #[.string s] w fun e w' => e = .returned (.bool true) ∧ Below w.heap.size w w' := by
  have HL := Lib.hid hL
  have HA := Lib.hid awake_any
  clear hL
  by_cases h : s.size ≤ 1000
  · have HN := Lib.hid (fun wx hx => decode_any s wx (by omega) hx)
    have HR := Lib.hid (fun wx => decodeR_any s wx (by omega))
    generalize dec s.data.toList = x at HN HR
    go_enter Tryd.func5, Tryd.ntmps5
    go_wp2_with fail
    refine (HA.out _ HL.out).mono ?_
    rintro e w1 ⟨rfl, hb⟩
    go_wp2_with fail
    refine (HN.out _ (HL.out.below hb)).mono ?_
    rintro e w2 ⟨rfl, hb2⟩
    go_wp2_with fail
    refine (HR.out _).mono ?_
    rintro e w3 ⟨rfl, hb3⟩
    have hb13 := hb.trans ((hb2.mono hb.size).trans (hb3.mono (Nat.le_trans hb.size hb2.size)))
    go_wp2_with fail
    all_goals go_ret
    all_goals exact ⟨by simp, hb13⟩
  · have h' : (1000 : Int) < s.size := by omega
    go_enter Tryd.func5, Tryd.ntmps5
    go_wp2_with fail
    refine (HA.out _ HL.out).mono ?_
    rintro e w1 ⟨rfl, hb⟩
    go_wp2_with fail
    refine (HA.out _ (HL.out.below hb)).mono ?_
    rintro e w2 ⟨rfl, hb2⟩
    have hb12 := hb.trans (hb2.mono hb.size)
    go_wp2_with fail
    all_goals go_ret
    all_goals exact ⟨by simp, hb12⟩
end Go.Proofs.YtefijebbndnnjaaDoor.W
