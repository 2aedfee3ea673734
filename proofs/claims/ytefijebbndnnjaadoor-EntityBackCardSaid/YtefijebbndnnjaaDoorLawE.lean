/- The walks of EntityEscapes and EntityBack. -/
import Derived.Test.YtefijebbndnnjaaDoorEscR
import Derived.Test.YtefijebbndnnjaaDoorLawB
set_option linter.unusedVariables false
set_option linter.unusedSimpArgs false
namespace Go.Proofs.YtefijebbndnnjaaDoor.W
open Go.RowKit

theorem next_ref (n r c : List UInt8) (hn : (59 : UInt8) ∉ n) (h1 : ∀ r, Lib.hasPrefix (38 :: (n ++ 59 :: r)) [38, 35] = false) (hl : lookP n = some c) : nextE (38 :: (n ++ 59 :: r)) = (c, n.length + 2) := by
  have hp : Lib.hasPrefix (n ++ 59 :: r) (n ++ [59]) = true := List.isPrefixOf_iff_prefix.2 ⟨r, by simp⟩
  rw [pre_semi _ n hn, Bool.and_eq_true, beq_iff_eq] at hp
  have h2 : ∀ x : UInt8, Lib.hasPrefix (38 :: (n ++ 59 :: r)) [38, 35, x] = false := by
    intro x
    have h := h1 r
    cases e : Lib.hasPrefix (38 :: (n ++ 59 :: r)) [38, 35, x] with
    | false => rfl
    | true =>
      have h3 : Lib.hasPrefix (38 :: (n ++ 59 :: r)) [38, 35] = true := by
        obtain ⟨y, hy⟩ := List.isPrefixOf_iff_prefix.1 e
        exact List.isPrefixOf_iff_prefix.2 ⟨x :: y, by rw [← hy]; rfl⟩
      rw [h] at h3; cases h3
  unfold nextE nameP
  rw [h2 120, h2 88, h1 r]
  simp only [List.drop_succ_cons, List.drop_zero, hp.1, if_true, ← hp.2, hl, Option.map_some, Option.getD_some, Bool.or_self, Bool.false_eq_true, if_false, pre_cons, beq_self_eq_true, Bool.true_and]
  rfl
theorem next_13 (r : List UInt8) : nextE ([38, 35, 49, 51, 59] ++ r) = ([13], 5) := by
  unfold nextE
  rw [show (Lib.hasPrefix ([38, 35, 49, 51, 59] ++ r) [38, 35, 120] || Lib.hasPrefix ([38, 35, 49, 51, 59] ++ r) [38, 35, 88]) = false from rfl, show Lib.hasPrefix ([38, 35, 49, 51, 59] ++ r) [38, 35] = true from rfl]
  simp only [Bool.false_eq_true, if_false, if_true]
  have hr : run 10 (([38, 35, 49, 51, 59] ++ r).drop 2) 0 2 = (13, 4) := by
    show run 10 (49 :: 51 :: 59 :: r) 0 2 = _
    rw [run_step 0 2 rfl (by decide), run_step _ _ rfl (by decide), run_stop _ _ rfl (by decide)]
    decide
  rw [numericP_of hr]
  rfl
theorem back_of (L : List (UInt8 × List UInt8)) (h0 : tabOf L 38 ≠ none) (h : ∀ p ∈ L, ∀ r, nextE (p.2 ++ r) = ([p.1], p.2.length) ∧ p.2 ≠ []) : Back (tabOf L) := by
  refine ⟨h0, fun c bs hc r => ?_⟩
  obtain ⟨p, hp, rfl⟩ := Option.map_eq_some_iff.1 hc
  have := List.find?_some hp
  simp only [beq_iff_eq] at this
  subst this
  exact h p (List.mem_of_find?_eq_some hp) r
theorem n_amp (r : List UInt8) : nextE ([38, 97, 109, 112, 59] ++ r) = ([38], 5) := next_ref [97, 109, 112] r [38] (by decide) (fun _ => rfl) (by decide +kernel)
theorem n_lt (r : List UInt8) : nextE ([38, 108, 116, 59] ++ r) = ([60], 4) := next_ref [108, 116] r [60] (by decide) (fun _ => rfl) (by decide +kernel)
theorem n_gt (r : List UInt8) : nextE ([38, 103, 116, 59] ++ r) = ([62], 4) := next_ref [103, 116] r [62] (by decide) (fun _ => rfl) (by decide +kernel)
theorem n_quot (r : List UInt8) : nextE ([38, 113, 117, 111, 116, 59] ++ r) = ([34], 6) := next_ref [113, 117, 111, 116] r [34] (by decide) (fun _ => rfl) (by decide +kernel)
theorem backT : Back (tabOf lisT) := back_of _ (by decide) (by
  intro p hp r
  simp only [lisT, List.mem_cons, List.not_mem_nil, or_false] at hp
  rcases hp with rfl | rfl | rfl | rfl
  · exact ⟨n_amp r, by simp⟩
  · exact ⟨n_lt r, by simp⟩
  · exact ⟨n_gt r, by simp⟩
  · exact ⟨next_13 r, by simp⟩)
theorem backA : Back (tabOf lisA) := back_of _ (by decide) (by
  intro p hp r
  simp only [lisA, List.mem_cons, List.not_mem_nil, or_false] at hp
  rcases hp with rfl | rfl | rfl
  · exact ⟨n_amp r, by simp⟩
  · exact ⟨n_quot r, by simp⟩
  · exact ⟨next_13 r, by simp⟩)

set_option maxRecDepth 100000 in
set_option maxHeartbeats 1000000 in
theorem escapes_law (s : ByteArray) (hs : s.size ≤ 9223372036854775807) (w : World) (hL : Laid w) :
    Calls Tryd.prog 8 #[.string s] w fun e w' => e = .returned (.bool true) ∧ Below w.heap.size w w' := by
  have HL := Lib.hid hL
  have HA := Lib.hid awake_any
  clear hL
  by_cases h : s.size ≤ 1000
  · have H1 := Lib.hid (fun wx => escape_any s wx (by omega))
    have H2 := Lib.hid (fun wx => escR_text s wx (by omega))
    have H3 := Lib.hid (fun wx => escapeAttr_any s wx (by omega))
    have H4 := Lib.hid (fun wx => escR_attr s wx (by omega))
    generalize escL (tabOf lisT) s.data.toList = x at H1 H2
    generalize escL (tabOf lisA) s.data.toList = y at H3 H4
    go_enter Tryd.func8, Tryd.ntmps8
    go_wp2_with fail
    refine (HA.out _ HL.out).mono ?_
    rintro e w1 ⟨rfl, hb⟩
    go_wp2_with fail
    refine (H1.out _).mono ?_
    rintro e w2 ⟨rfl, hb2⟩
    have hc2 := hb.trans (hb2.mono hb.size)
    go_wp2_with fail
    refine (H2.out _).mono ?_
    rintro e w3 ⟨rfl, hb3⟩
    have hc3 := hc2.trans (hb3.mono hc2.size)
    go_wp2_with fail
    refine (H3.out _).mono ?_
    rintro e w4 ⟨rfl, hb4⟩
    have hc4 := hc3.trans (hb4.mono hc3.size)
    go_wp2_with fail
    refine (H4.out _).mono ?_
    rintro e w5 ⟨rfl, hb5⟩
    have hc5 := hc4.trans (hb5.mono hc4.size)
    go_wp2_with fail
    all_goals go_ret
    all_goals exact ⟨by simp, hc5⟩
  · have h' : (1000 : Int) < s.size := by omega
    go_enter Tryd.func8, Tryd.ntmps8
    go_wp2_with fail
    refine (HA.out _ HL.out).mono ?_
    rintro e w1 ⟨rfl, hb⟩
    go_wp2_with fail
    refine (HA.out _ (HL.out.below hb)).mono ?_
    rintro e w2 ⟨rfl, hb2⟩
    have hb12 := hb.trans (hb2.mono hb.size)
    go_wp2_with fail
    all_goals go_ret
    all_goals exact ⟨by simp, hb12⟩

theorem decode_is (s : ByteArray) (o : ByteArray) (hs : s.size ≤ 1000000) (h : dec s.data.toList = o.data.toList) (w : World) (hL : Laid w) :
    Calls Tryd.prog 15 #[.string s] w fun e w' => e = .returned (.string o) ∧ Below w.heap.size w w' := by
  have := decode_any s w hs hL
  rw [h] at this
  exact this

set_option maxRecDepth 100000 in
set_option maxHeartbeats 1000000 in
theorem back_law (s u : ByteArray) (hs : s.size ≤ 9223372036854775807) (hu : u.size ≤ 9223372036854775807) (w : World) (hL : Laid w) :
    Calls Tryd.prog 9 #[.string s, .string u] w fun e w' => e = .returned (.bool true) ∧ Below w.heap.size w w' := by
  have HL := Lib.hid hL
  have HA := Lib.hid awake_any
  clear hL
  by_cases h : s.size ≤ 1000
  · by_cases hu2 : u.size ≤ 1000
    · have H1 := Lib.hid (fun wx => escape_any s wx (by omega))
      have H3 := Lib.hid (fun wx => escapeAttr_any s wx (by omega))
      have H5 := Lib.hid (fun wx => escapeAttr_any u wx (by omega))
      have k1 := escL_le tblT s.data.toList
      have k2 := escL_le tblA s.data.toList
      have k3 := escL_le tblA u.data.toList
      rw [← Lib.size_eq] at k1 k2 k3
      have d1 : dec (escL (tabOf lisT) s.data.toList) = s.data.toList := by
        have := dec_esc backT [] s.data.toList
        rwa [List.append_nil, dec_nil, List.append_nil] at this
      have d2 : dec (escL (tabOf lisA) s.data.toList) = s.data.toList := by
        have := dec_esc backA [] s.data.toList
        rwa [List.append_nil, dec_nil, List.append_nil] at this
      have d4 : dec (escL (tabOf lisA) u.data.toList) = u.data.toList := by
        have := dec_esc backA [] u.data.toList
        rwa [List.append_nil, dec_nil, List.append_nil] at this
      have d3 : dec (escL (tabOf lisT) s.data.toList ++ escL (tabOf lisA) u.data.toList) = s.data.toList ++ u.data.toList := by
        rw [dec_esc backT, d4]
      generalize escL (tabOf lisT) s.data.toList = x at *
      generalize escL (tabOf lisA) s.data.toList = y at *
      generalize escL (tabOf lisA) u.data.toList = z at *
      have zx : (⟨x.toArray⟩ : ByteArray).size = x.length := Lib.size_eq _
      have zy : (⟨y.toArray⟩ : ByteArray).size = y.length := Lib.size_eq _
      have zz : (⟨z.toArray⟩ : ByteArray).size = z.length := Lib.size_eq _
      have H2 := Lib.hid (decode_is ⟨x.toArray⟩ s (by omega) d1)
      have H4 := Lib.hid (decode_is ⟨y.toArray⟩ s (by omega) d2)
      have H6 := Lib.hid (decode_is (⟨x.toArray⟩ ++ ⟨z.toArray⟩) (s ++ u) (by rw [ByteArray.size_append]; omega) (by rw [ByteArray.data_append, Array.toList_append, ByteArray.data_append, Array.toList_append]; exact d3))
      clear d1 d2 d3 d4
      go_enter Tryd.func9, Tryd.ntmps9
      go_wp2_with fail
      refine (HA.out _ HL.out).mono ?_
      rintro e w1 ⟨rfl, hb⟩
      go_wp2_with fail
      refine (H1.out _).mono ?_
      rintro e w2 ⟨rfl, hb2⟩
      have hc2 := hb.trans (hb2.mono hb.size)
      go_wp2_with fail
      refine (H2.out _ (HL.out.below hc2)).mono ?_
      rintro e w3 ⟨rfl, hb3⟩
      have hc3 := hc2.trans (hb3.mono hc2.size)
      go_wp2_with fail
      refine (H3.out _).mono ?_
      rintro e w4 ⟨rfl, hb4⟩
      have hc4 := hc3.trans (hb4.mono hc3.size)
      go_wp2_with fail
      refine (H4.out _ (HL.out.below hc4)).mono ?_
      rintro e w5 ⟨rfl, hb5⟩
      have hc5 := hc4.trans (hb5.mono hc4.size)
      go_wp2_with fail
      refine (H1.out _).mono ?_
      rintro e w6 ⟨rfl, hb6⟩
      have hc6 := hc5.trans (hb6.mono hc5.size)
      go_wp2_with fail
      refine (H5.out _).mono ?_
      rintro e w7 ⟨rfl, hb7⟩
      have hc7 := hc6.trans (hb7.mono hc6.size)
      go_wp2_with fail
      refine (H6.out _ (HL.out.below hc7)).mono ?_
      rintro e w8 ⟨rfl, hb8⟩
      have hc8 := hc7.trans (hb8.mono hc7.size)
      go_wp2_with fail
      all_goals go_ret
      all_goals exact ⟨by simp, hc8⟩
    · have h' : (1000 : Int) < u.size := by omega
      have h'' : ¬ (1000 : Int) < s.size := by omega
      go_enter Tryd.func9, Tryd.ntmps9
      go_wp2_with fail
      refine (HA.out _ HL.out).mono ?_
      rintro e w1 ⟨rfl, hb⟩
      go_wp2_with fail
      refine (HA.out _ (HL.out.below hb)).mono ?_
      rintro e w2 ⟨rfl, hb2⟩
      have hb12 := hb.trans (hb2.mono hb.size)
      go_wp2_with fail
      all_goals go_ret
      all_goals exact ⟨by simp, hb12⟩
  · have h' : (1000 : Int) < s.size := by omega
    go_enter Tryd.func9, Tryd.ntmps9
    go_wp2_with fail
    refine (HA.out _ HL.out).mono ?_
    rintro e w1 ⟨rfl, hb⟩
    go_wp2_with fail
    refine (HA.out _ (HL.out.below hb)).mono ?_
    rintro e w2 ⟨rfl, hb2⟩
    have hb12 := hb.trans (hb2.mono hb.size)
    go_wp2_with fail
    all_goals go_ret
    all_goals exact ⟨by simp, hb12⟩
end Go.Proofs.YtefijebbndnnjaaDoor.W
