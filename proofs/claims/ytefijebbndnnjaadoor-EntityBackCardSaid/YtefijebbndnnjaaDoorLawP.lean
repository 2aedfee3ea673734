/- The walk of EntityPlain. -/
import Derived.Test.YtefijebbndnnjaaDoorLawB
import Derived.Test.YtefijebbndnnjaaDoorReg
set_option linter.unusedVariables false
set_option linter.unusedSimpArgs false
namespace Go.Proofs.YtefijebbndnnjaaDoor.W
open Go.RowKit

/-- what stands before the first '&' stays -/
theorem dec_pre : ∀ (i : Nat) (l : List UInt8), i ≤ l.length → (∀ j : Nat, j < i → l[j]? ≠ some 38) → dec l = l.take i ++ dec (l.drop i)
  | 0, l, _, _ => by simp
  | i + 1, [], h, _ => by simp at h
  | i + 1, a :: t, h, hn => by
    have ha : a ≠ 38 := fun e => hn 0 (by omega) (by simp [e])
    rw [dec_not t ha, dec_pre i t (by simpa using h) (fun j hj => by simpa using hn (j + 1) (by omega))]
    simp

theorem dec_len : ∀ (n : Nat) (l : List UInt8), l.length ≤ n → (dec l).length ≤ 4 * l.length
  | _, [], _ => by rw [dec_nil]; simp
  | 0, _ :: _, h => by simp at h
  | n + 1, c :: t, h => by
    have hle := nextE_le (c :: t)
    simp only [List.length_cons] at h hle
    by_cases hz : (nextE (c :: t)).2 = 0
    · have := dec_len n t (by omega)
      rw [dec_zero hz]; simp only [List.length_cons]; omega
    · have := dec_len n ((c :: t).drop (nextE (c :: t)).2) (by rw [List.length_drop, List.length_cons]; omega)
      rw [dec_some hz, List.length_append]
      rw [List.length_drop, List.length_cons] at this
      simp only [List.length_cons]; omega

def PlR (w : World) (l : List UInt8) (iv : Value) (wr : World) : Prop :=
  ∃ i : Nat, i ≤ l.length ∧ iv = .int .i64 (i : Int) ∧ (∀ j : Nat, j < i → l[j]? ≠ some 38) ∧ Below w.heap.size w wr
def PlS (w : World) (wx : World) : Prop := Laid wx ∧ Below w.heap.size w wx

set_option maxRecDepth 100000 in
set_option maxHeartbeats 4000000 in
theorem plain_law (s : ByteArray) (hs : s.size ≤ 9223372036854775807) (w : World) (hL : Laid w) :
    Calls Tryd.prog 6 #[.string s] w fun e w' => e = .returned (.bool true) ∧ Below w.heap.size w w' := by
  have HL := Lib.hid hL
  have HA := Lib.hid awake_any
  clear hL
  by_cases h : s.size ≤ 1000
  · have hl : s.data.toList.length = s.size := (Lib.size_eq s).symm
    have HN := Lib.hid (fun wx hx => decode_any s wx (by omega) hx)
    go_enter Tryd.func6, Tryd.ntmps6
    go_wp2_with fail
    refine (HA.out _ HL.out).mono ?_
    rintro e w1 ⟨rfl, hb⟩
    go_wp2_with fail
    go_loopw [3] (fun iv wr => PlR w s.data.toList iv wr) (fun iv _ => s.size - (intOf iv).toNat)
    case atStart => exact ⟨0, by omega, rfl, fun j hj => by omega, hb⟩
    case round =>
      obtain ⟨i, hi, rfl, hn, hB⟩ := hrel
      rw [hl] at hi
      by_cases hlt : i < s.size
      · have hg := getElem?_at s i hlt
        by_cases hc : s[i] = 38
        · have hd := dec_pre i s.data.toList (by omega) hn
          have ec : (s[i].toNat : Int) = 38 := by rw [hc]; rfl
          have e1 : (s.extract i s.size).data.toList = s.data.toList.drop i := by
            rw [Lib.extract_data, List.take_of_length_le]; rw [List.length_drop, ← Lib.size_eq]; exact Nat.le_refl _
          have e0 : (s.extract 0 i).data.toList = s.data.toList.take i := by rw [Lib.extract_data]; rfl
          have HM := Lib.hid (fun wx hx => decode_any (s.extract i s.size) wx (by rw [ByteArray.size_extract]; omega) hx)
          rw [e1] at HM
          have HE := Lib.hid (show (⟨(dec s.data.toList).toArray⟩ : ByteArray) = s.extract 0 i ++ ⟨(dec (s.data.toList.drop i)).toArray⟩ by
            apply ByteArray.ext
            apply Array.toList_inj.1
            rw [ByteArray.data_append, Array.toList_append, e0]
            exact hd)
          have hz2 : (⟨(dec (s.data.toList.drop i)).toArray⟩ : ByteArray).size ≤ 4000 := by
            have := dec_len _ (s.data.toList.drop i) (Nat.le_refl _)
            rw [List.length_drop] at this
            rw [Lib.size_eq]; show (dec (s.data.toList.drop i)).length ≤ 4000; omega
          have hz3 : (s.extract 0 i).size ≤ 1000 := by rw [ByteArray.size_extract]; omega
          have hP : PlS w wr := ⟨HL.out.below hB, hB⟩
          clear hg hc hd hn e0 e1
          go_upto_region 7 with fail
          generalize (⟨(dec (s.data.toList.drop i)).toArray⟩ : ByteArray) = d2 at HM HE hz2
          generalize (⟨(dec s.data.toList).toArray⟩ : ByteArray) = d1 at HN HE
          have hne : Nonempty (InS (PlS w)) := ⟨⟨_, hP⟩⟩
          refine reg_st (PlS w) (fun _ => PlS w) (by kernel_rfl) (by kernel_rfl) (by kernel_rfl) (fun _ _ h => h) ⟨HL.out.below (hB.trans (Go.Joins.below_draws _ _ 1)), hB.trans (Go.Joins.below_draws _ _ 1)⟩ ?_
          repeat (first
            | (refine st_held (by rfl) (fun K hK => ?_); go_big_quiet_step (fail); refine wpQuiet_nil ?_; refine hK.out _ ?_; clear hK K)
            | (refine st_skip (by rfl) ?_; simp only [Act.put, List.setIfInBounds_toArray, List.set_cons_zero, List.set_cons_succ]))
          refine st_call (.string d1) (by rfl) (by rfl) (fun w => by go_simp; exact ⟨rfl, rfl⟩) ?_ ?_
          · rintro wx ⟨hx, hbx⟩
            refine (HN.out wx hx).mono ?_
            rintro e w2 ⟨rfl, hb2⟩
            exact ⟨rfl, hx.below hb2, hbx.trans (hb2.mono hbx.size)⟩
          simp only [Act.put, List.setIfInBounds_toArray, List.set_cons_zero, List.set_cons_succ]
          repeat (first
            | (refine st_held (by rfl) (fun K hK => ?_); go_big_quiet_step (fail); refine wpQuiet_nil ?_; refine hK.out _ ?_; clear hK K)
            | (refine st_skip (by rfl) ?_; simp only [Act.put, List.setIfInBounds_toArray, List.set_cons_zero, List.set_cons_succ]))
          refine st_call (.string d2) (by rfl) (by rfl) (fun w => by go_simp; exact ⟨rfl, rfl⟩) ?_ ?_
          · rintro wx ⟨hx, hbx⟩
            refine (HM.out wx hx).mono ?_
            rintro e w2 ⟨rfl, hb2⟩
            exact ⟨rfl, hx.below hb2, hbx.trans (hb2.mono hbx.size)⟩
          simp only [Act.put, List.setIfInBounds_toArray, List.set_cons_zero, List.set_cons_succ]
          repeat (first
            | (refine st_held (by rfl) (fun K hK => ?_); go_big_quiet_step (fail); refine wpQuiet_nil ?_; refine hK.out _ ?_; clear hK K)
            | (refine st_skip (by rfl) ?_; simp only [Act.put, List.setIfInBounds_toArray, List.set_cons_zero, List.set_cons_succ]))
          refine st_nil ?_
          rintro wx ⟨hx, hbx⟩
          go_wp2_with fail
          go_ret
          exact ⟨by rw [← HE.out]; simp, hbx⟩
        · have ec : ¬ (s[i].toNat : Int) = 38 := fun e => hc (by
            have : s[i].toNat = 38 := by omega
            exact UInt8.toNat_inj.1 (by rw [this]; rfl))
          have HH := Lib.hid (show ∀ j : Nat, j < i + 1 → s.data.toList[j]? ≠ some 38 from fun j hj => by
            rcases Nat.lt_or_ge j i with h' | h'
            · exact hn j h'
            · obtain rfl : j = i := by omega
              rw [hg]; exact fun e => hc (Option.some.inj e))
          clear hg hc hn
          go_wp2_with fail
          exact ⟨⟨i + 1, by omega, by go_num, HH.out, hB⟩, by simp [intOf]; omega⟩
      · have HD := Lib.hid (show (⟨(dec s.data.toList).toArray⟩ : ByteArray) = s by
          have hd := dec_pre i s.data.toList (by omega) hn
          rw [List.take_of_length_le (by omega), List.drop_eq_nil_of_le (by omega), dec_nil, List.append_nil] at hd
          rw [hd])
        rw [HD.out] at HN
        clear hn
        go_wp2_with fail
        refine (HN.out _ (HL.out.below hB)).mono ?_
        rintro e w2 ⟨rfl, hb2⟩
        go_wp2_with fail
        go_ret
        exact ⟨by simp, hB.trans (hb2.mono hB.size)⟩
  · have h' : (1000 : Int) < s.size := by omega
    go_enter Tryd.func6, Tryd.ntmps6
    go_wp2_with fail
    refine (HA.out _ HL.out).mono ?_
    rintro e w1 ⟨rfl, hb⟩
    go_wp2_with fail
    refine (HA.out _ (HL.out.below hb)).mono ?_
    rintro e w2 ⟨rfl, hb2⟩
    have hb12 := hb.trans (hb2.mono hb.size)
    go_wp2_with fail
    all_goals go_ret
    all_goals exact ⟨by simp, hb12⟩
end Go.Proofs.YtefijebbndnnjaaDoor.W
