/- Texts joined: Pts. -/
import Derived.Test.YtacdbnhnhdlmpaaGreatDoorFB12
set_option maxRecDepth 100000
set_option maxHeartbeats 40000000
set_option linter.unusedVariables false
set_option linter.unusedSimpArgs false
section
namespace Go.Proofs.YtacdbnhnhdlmpaaGreatDoor.W
open Go.RowKit
theorem dec_max (l : List UInt8) (hne : l ≠ []) : (Lib.decodeL l).2 = max (szL l) 1 := by
  have hw := Lib.decodeL_width l
  unfold szL
  rw [if_neg hne]
  split
  · rename_i h; rw [h.2]; rfl
  · omega
theorem drop_ne (s : ByteArray) (pos : Nat) (h : pos < s.size) : s.data.toList.drop pos ≠ [] := by
  intro e
  have := congrArg List.length e
  rw [List.length_drop, Array.length_toList] at this
  have h2 : s.data.size = s.size := rfl
  simp at this
  omega
theorem drop_end (s : ByteArray) (pos : Nat) (h : ¬ pos < s.size) : s.data.toList.drop pos = [] :=
  List.drop_eq_nil_of_le (by rw [Array.length_toList]; show s.size ≤ pos; omega)
theorem runeCount_pts (s : ByteArray) : ∀ f pos, s.size ≤ pos + f → Lib.runeCountFrom s f pos = (ptsL (s.data.toList.drop pos)).length
  | 0, pos, h => by
    rw [drop_end s pos (by omega)]
    rfl
  | f + 1, pos, h => by
    unfold Lib.runeCountFrom
    by_cases hp : pos < s.size
    · have hne := drop_ne s pos hp
      have hw := width_pos s pos hp
      rw [if_pos hp, runeCount_pts s f _ (by omega), ptsL_step _ hne, List.length_cons, decodeL_at, dec_max _ hne, ← List.drop_drop]
      omega
    · rw [if_neg hp, drop_end s pos hp]
      rfl
theorem runeCount_is (l : List UInt8) : Lib.runeCount ⟨l.toArray⟩ = (ptsL l).length := by
  unfold Lib.runeCount
  rw [runeCount_pts _ _ _ (by omega)]
  rfl
def offP (P : List (List UInt8)) (k : Nat) : Nat := (P.take k).flatten.length
theorem offP_zero (P : List (List UInt8)) : offP P 0 = 0 := rfl
theorem offP_succ (x : List UInt8) (P : List (List UInt8)) (k : Nat) : offP (x :: P) (k + 1) = x.length + offP P k := by
  unfold offP
  rw [List.take_succ_cons, List.flatten_cons, List.length_append]
theorem slGo_pts (s : ByteArray) (a b : Nat) (hab : a ≤ b) : ∀ (f pos n i : Nat), s.size ≤ pos + f → n ≤ b →
    slGo s a b f pos n i = (if n ≤ a ∧ a < n + (ptsL (s.data.toList.drop pos)).length then pos + offP (ptsL (s.data.toList.drop pos)) (a - n) else i,
      if b < n + (ptsL (s.data.toList.drop pos)).length then pos + offP (ptsL (s.data.toList.drop pos)) (b - n) else s.size)
  | 0, pos, n, i, h, hn => by
    rw [drop_end s pos (by omega)]
    unfold slGo
    rw [ptsL_nil]
    simp only [List.length_nil, Nat.add_zero]
    rw [if_neg (by omega), if_neg (by omega)]
  | f + 1, pos, n, i, h, hn => by
    unfold slGo
    by_cases hp : pos < s.size
    · have hne := drop_ne s pos hp
      have hw := width_pos s pos hp
      have hst := ptsL_step _ hne
      have hdm := dec_max _ hne
      rw [List.drop_drop, ← hdm, ← decodeL_at] at hst
      have hxl : (List.take (Utf8.decode s pos).2 (s.data.toList.drop pos)).length = (Utf8.decode s pos).2 := by
        rw [List.length_take]
        have := Lib.decodeL_le _ hne
        rw [← decodeL_at] at this
        omega
      rw [if_pos hp]
      by_cases hnb : n = b
      · subst hnb
        rw [if_pos (by rfl), hst, List.length_cons, if_pos (show n < _ by omega), Nat.sub_self, offP_zero, Nat.add_zero]
        by_cases hna : n = a
        · subst hna
          rw [if_pos (by rfl), if_pos (by omega)]
          simp [offP]
        · rw [if_neg (by omega), if_neg (by omega)]
          simp [offP]
      · rw [if_neg (by omega), slGo_pts s a b hab f _ _ _ (by omega) (by omega), hst, List.length_cons]
        generalize hP : ptsL (s.data.toList.drop (pos + (Utf8.decode s pos).2)) = P at *
        congr 1
        · by_cases hna : n = a
          · subst hna
            rw [if_neg (by omega), if_pos (by rfl), if_pos (by omega), Nat.sub_self, offP_zero, Nat.add_zero]
          · rw [if_neg (show ¬ (n : Int) = (a : Int) by omega)]
            by_cases q : n + 1 ≤ a ∧ a < n + 1 + P.length
            · rw [if_pos q, if_pos (by omega), show a - n = (a - (n + 1)) + 1 by omega, offP_succ, hxl]
              omega
            · rw [if_neg q, if_neg (by omega)]
        · by_cases q : b < n + 1 + P.length
          · rw [if_pos q, if_pos (by omega), show b - n = (b - (n + 1)) + 1 by omega, offP_succ, hxl]
            omega
          · rw [if_neg q, if_neg (by omega)]
    · rw [if_neg hp, drop_end s pos hp, ptsL_nil]
      simp only [List.length_nil, Nat.add_zero]
      rw [if_neg (by omega), if_neg (by omega)]
theorem offP_all (P : List (List UInt8)) : offP P P.length = P.flatten.length := by unfold offP; rw [List.take_length]
theorem cut_join (P : List (List UInt8)) (a b : Nat) (hab : a ≤ b) : (P.flatten.take (offP P b)).drop (offP P a) = joinL P a b := by
  have e1 : P.flatten.take (offP P b) = (P.take b).flatten := by
    conv => lhs; rw [← List.take_append_drop b P, List.flatten_append]
    unfold offP
    exact List.take_left' (by simp)
  have e2 : (P.take b).flatten = (P.take a).flatten ++ ((P.take b).drop a).flatten := by
    conv => lhs; rw [← List.take_append_drop a (P.take b), List.flatten_append]
    rw [List.take_take, Nat.min_eq_left hab]
  rw [e1, e2]
  unfold offP joinL
  exact List.drop_left' rfl
theorem sliceF_join (l : List UInt8) (hv : rfix l = l) (a b : Nat) (hab : a ≤ b) (hb : b ≤ (ptsL l).length) : sliceF l a b = joinL (ptsL l) a b := by
  unfold sliceF
  by_cases h : (b : Int) ≤ max (a : Int) 0
  · rw [if_pos h, joinL_stop _ _ _ (.inl (by omega))]
  · rw [if_neg h, fix_rfix, hv, show max (a : Int) 0 = (a : Int) by omega, slGo_pts ⟨l.toArray⟩ a b hab l.length 0 0 l.length (by show l.toArray.size ≤ _; simp) (Nat.zero_le _)]
    have hd : (⟨l.toArray⟩ : ByteArray).data.toList.drop 0 = l := rfl
    have hfl : (ptsL l).flatten = l := ptsL_join l.length l (Nat.le_refl _)
    have hsz : (⟨l.toArray⟩ : ByteArray).size = l.length := by show l.toArray.size = _; simp
    have hall := offP_all (ptsL l)
    rw [hfl] at hall
    rw [hd, Nat.zero_add, hsz]
    have e1 : (if 0 ≤ a ∧ a < (ptsL l).length then 0 + offP (ptsL l) (a - 0) else l.length) = offP (ptsL l) a := by
      by_cases q : a < (ptsL l).length
      · rw [if_pos ⟨by omega, q⟩]; simp
      · rw [if_neg (by omega), ← hall, show a = (ptsL l).length by omega]
    have e2 : (if b < (ptsL l).length then 0 + offP (ptsL l) (b - 0) else l.length) = offP (ptsL l) b := by
      by_cases q : b < (ptsL l).length
      · rw [if_pos q]; simp
      · rw [if_neg (by omega), ← hall, show b = (ptsL l).length by omega]
    rw [e1, e2]
    unfold exL
    rw [ByteArray.data_extract, Array.toList_extract, List.extract_eq_take_drop]
    have := cut_join (ptsL l) a b hab
    rw [hfl] at this
    rw [← this, List.drop_take]
/-! ### what is repaired is valid -/
theorem szL_app (l t : List UInt8) (h : szL l ≠ 0) : szL (l.take (szL l) ++ t) = szL l ∧ (l.take (szL l)).length = szL l := by
  have hne : l ≠ [] := fun e => h (by rw [e]; rfl)
  have hle := szL_le l
  have hlen : (l.take (szL l)).length = szL l := by rw [List.length_take]; omega
  refine ⟨?_, hlen⟩
  have hne2 : l.take (szL l) ++ t ≠ [] := fun e => by
    have := congrArg List.length e
    rw [List.length_append, hlen] at this
    simp at this
    omega
  have hl0 : 0 < l.length := List.length_pos_iff.2 hne
  obtain ⟨z, hz⟩ : ∃ z, szL l = z := ⟨_, rfl⟩
  rw [hz] at h hle hlen hne2 ⊢
  have g : ∀ k, k < z → (l.take z ++ t).getD k 0 = l.getD k 0 := by
    intro k hk
    rw [List.getD_eq_getElem?_getD, List.getD_eq_getElem?_getD, List.getElem?_append_left (by omega), List.getElem?_take, if_pos hk]
  rw [szL_N _ hne2, List.length_append, hlen]
  rw [szL_N _ hne] at hz
  have hz0 : 0 < z + t.length := by omega
  have zz : ∀ b lo hi, inN (z + t.length) 0 b lo hi = inN l.length 0 b lo hi := fun b lo hi => by
    unfold inN
    rw [decide_eq_true hz0, decide_eq_true hl0]
  have mm : ∀ i b lo hi, i < z → inN l.length i b lo hi = true → inN (z + t.length) i b lo hi = true := fun i b lo hi hi' h => by
    unfold inN at h ⊢
    simp only [Bool.and_eq_true, decide_eq_true_eq] at h ⊢
    omega
  have nn : ∀ b lo hi, (b < lo ∨ hi < b) → inN l.length 0 b lo hi = false := fun b lo hi h => by
    unfold inN
    simp only [Bool.and_eq_false_iff, decide_eq_false_iff_not]
    omega
  have bb : ∀ b lo hi, inN l.length 0 b lo hi = true → lo ≤ b ∧ b ≤ hi := fun b lo hi h => by
    unfold inN at h
    simp only [Bool.and_eq_true, decide_eq_true_eq] at h
    omega
  have ss : ∀ b0 b1, 1 < z → secN l.length b0 b1 = true → secN (z + t.length) b0 b1 = true := fun b0 b1 h1 h => by
    unfold secN at h ⊢
    by_cases q0 : b0 = 224
    · rw [if_pos q0] at h ⊢; exact mm _ _ _ _ h1 h
    rw [if_neg q0] at h ⊢
    by_cases q1 : b0 = 237
    · rw [if_pos q1] at h ⊢; exact mm _ _ _ _ h1 h
    rw [if_neg q1] at h ⊢
    by_cases q2 : b0 = 240
    · rw [if_pos q2] at h ⊢; exact mm _ _ _ _ h1 h
    rw [if_neg q2] at h ⊢
    by_cases q3 : b0 = 244
    · rw [if_pos q3] at h ⊢; exact mm _ _ _ _ h1 h
    · rw [if_neg q3] at h ⊢; exact mm _ _ _ _ h1 h
  unfold szN at hz ⊢
  by_cases c1 : inN l.length 0 (l.getD 0 0).toNat 0 127 = true
  · rw [if_pos c1] at hz
    subst hz
    rw [g 0 (by omega), zz, if_pos c1]
  · rw [if_neg c1] at hz
    by_cases c2 : (inN l.length 0 (l.getD 0 0).toNat 194 223 && inN l.length 1 (l.getD 1 0).toNat 128 191) = true
    · rw [if_pos c2] at hz
      subst hz
      rw [Bool.and_eq_true] at c2
      rw [g 0 (by omega), g 1 (by omega), zz, zz, if_neg c1, if_pos (by rw [c2.1, mm _ _ _ _ (by omega) c2.2]; rfl)]
    · rw [if_neg c2] at hz
      by_cases c3 : (inN l.length 0 (l.getD 0 0).toNat 224 239 && secN l.length (l.getD 0 0).toNat (l.getD 1 0).toNat && inN l.length 2 (l.getD 2 0).toNat 128 191) = true
      · rw [if_pos c3] at hz
        subst hz
        rw [Bool.and_eq_true, Bool.and_eq_true] at c3
        have hb := bb _ _ _ c3.1.1
        rw [g 0 (by omega), g 1 (by omega), g 2 (by omega), zz, zz, zz, if_neg c1, nn (l.getD 0 0).toNat 194 223 (by omega), Bool.false_and, if_neg (by simp), if_pos (by rw [c3.1.1, ss _ _ (by omega) c3.1.2, mm _ _ _ _ (by omega) c3.2]; rfl)]
      · rw [if_neg c3] at hz
        by_cases c4 : (inN l.length 0 (l.getD 0 0).toNat 240 244 && secN l.length (l.getD 0 0).toNat (l.getD 1 0).toNat && (inN l.length 2 (l.getD 2 0).toNat 128 191 && inN l.length 3 (l.getD 3 0).toNat 128 191)) = true
        · rw [if_pos c4] at hz
          subst hz
          rw [Bool.and_eq_true, Bool.and_eq_true, Bool.and_eq_true] at c4
          have hb := bb _ _ _ c4.1.1
          rw [g 0 (by omega), g 1 (by omega), g 2 (by omega), g 3 (by omega), zz, zz, zz, zz, if_neg c1, nn (l.getD 0 0).toNat 194 223 (by omega), nn (l.getD 0 0).toNat 224 239 (by omega), Bool.false_and, Bool.false_and, Bool.false_and, if_neg (by simp), if_neg (by simp),
            if_pos (by rw [c4.1.1, ss _ _ (by omega) c4.1.2, mm _ _ _ _ (by omega) c4.2.1, mm _ _ _ _ (by omega) c4.2.2]; rfl)]
        · rw [if_neg c4] at hz
          exact absurd hz.symm h
theorem rfix_app_bad (t : List UInt8) : rfix ([239, 191, 189] ++ t) = [239, 191, 189] ++ rfix t := by
  have h3 : szL ([239, 191, 189] ++ t) = 3 := by
    have := (szL_app [239, 191, 189] t (by decide)).1
    rw [show szL [239, 191, 189] = 3 by decide] at this
    exact this
  rw [rfix_step _ (by simp), h3, if_neg (by omega)]
  rfl
theorem rfix_twice (n : Nat) : ∀ (l : List UInt8), l.length ≤ n → rfix (rfix l) = rfix l := by
  induction n with
  | zero =>
    intro l h
    have : l = [] := List.eq_nil_of_length_eq_zero (by omega)
    subst this
    rfl
  | succ n ih =>
    intro l h
    by_cases hne : l = []
    · subst hne; rfl
    · have hl : 0 < l.length := List.length_pos_iff.2 hne
      have e := rfix_step l hne
      by_cases h0 : szL l = 0
      · rw [if_pos h0] at e
        rw [e, rfix_app_bad, ih _ (by rw [List.length_drop]; omega)]
      · rw [if_neg h0] at e
        obtain ⟨h1, h2⟩ := szL_app l (rfix (l.drop (szL l))) h0
        have hne2 : l.take (szL l) ++ rfix (l.drop (szL l)) ≠ [] := fun e2 => by
          have := congrArg List.length e2
          rw [List.length_append, h2] at this
          simp at this
          omega
        have e3 := rfix_step _ hne2
        rw [h1, if_neg h0, List.take_left' h2, List.drop_left' h2, ih _ (by rw [List.length_drop]; omega)] at e3
        rw [e, e3]
theorem rfix_rfix (l : List UInt8) : rfix (rfix l) = rfix l := rfix_twice l.length l (Nat.le_refl _)
end Go.Proofs.YtacdbnhnhdlmpaaGreatDoor.W
end
