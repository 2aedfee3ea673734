/- Texts joined: Pts FmP FmQ Sel. -/
import Derived.Test.YtacdbnhnhdlmpaaGreatDoorFE13
import Derived.Test.YtacdbnhnhdlmpaaGreatDoorFE1
set_option maxRecDepth 100000
set_option maxHeartbeats 40000000
set_option linter.unusedVariables false
set_option linter.unusedSimpArgs false
section
namespace Go.Proofs.YtacdbnhnhdlmpaaGreatDoor.W
open Go.RowKit
theorem dec_max (l : List UInt8) (hne : l ≠ []) : (Lib.decodeL l).2 = max (szL l) 1 := by
  have hw := Lib.decodeL_width l
  unfold szL
  rw [if_neg hne]
  split
  · rename_i h; rw [h.2]; rfl
  · omega
theorem drop_ne (s : ByteArray) (pos : Nat) (h : pos < s.size) : s.data.toList.drop pos ≠ [] := by
  intro e
  have := congrArg List.length e
  rw [List.length_drop, Array.length_toList] at this
  have h2 : s.data.size = s.size := rfl
  simp at this
  omega
theorem drop_end (s : ByteArray) (pos : Nat) (h : ¬ pos < s.size) : s.data.toList.drop pos = [] :=
  List.drop_eq_nil_of_le (by rw [Array.length_toList]; show s.size ≤ pos; omega)
theorem runeCount_pts (s : ByteArray) : ∀ f pos, s.size ≤ pos + f → Lib.runeCountFrom s f pos = (ptsL (s.data.toList.drop pos)).length
  | 0, pos, h => by
    rw [drop_end s pos (by omega)]
    rfl
  | f + 1, pos, h => by
    unfold Lib.runeCountFrom
    by_cases hp : pos < s.size
    · have hne := drop_ne s pos hp
      have hw := width_pos s pos hp
      rw [if_pos hp, runeCount_pts s f _ (by omega), ptsL_step _ hne, List.length_cons, decodeL_at, dec_max _ hne, ← List.drop_drop]
      omega
    · rw [if_neg hp, drop_end s pos hp]
      rfl
theorem runeCount_is (l : List UInt8) : Lib.runeCount ⟨l.toArray⟩ = (ptsL l).length := by
  unfold Lib.runeCount
  rw [runeCount_pts _ _ _ (by omega)]
  rfl
def offP (P : List (List UInt8)) (k : Nat) : Nat := (P.take k).flatten.length
theorem offP_zero (P : List (List UInt8)) : offP P 0 = 0 := rfl
theorem offP_succ (x : List UInt8) (P : List (List UInt8)) (k : Nat) : offP (x :: P) (k + 1) = x.length + offP P k := by
  unfold offP
  rw [List.take_succ_cons, List.flatten_cons, List.length_append]
theorem slGo_pts (s : ByteArray) (a b : Nat) (hab : a ≤ b) : ∀ (f pos n i : Nat), s.size ≤ pos + f → n ≤ b →
    slGo s a b f pos n i = (if n ≤ a ∧ a < n + (ptsL (s.data.toList.drop pos)).length then pos + offP (ptsL (s.data.toList.drop pos)) (a - n) else i,
      if b < n + (ptsL (s.data.toList.drop pos)).length then pos + offP (ptsL (s.data.toList.drop pos)) (b - n) else s.size)
  | 0, pos, n, i, h, hn => by
    rw [drop_end s pos (by omega)]
    unfold slGo
    rw [ptsL_nil]
    simp only [List.length_nil, Nat.add_zero]
    rw [if_neg (by omega), if_neg (by omega)]
  | f + 1, pos, n, i, h, hn => by
    unfold slGo
    by_cases hp : pos < s.size
    · have hne := drop_ne s pos hp
      have hw := width_pos s pos hp
      have hst := ptsL_step _ hne
      have hdm := dec_max _ hne
      rw [List.drop_drop, ← hdm, ← decodeL_at] at hst
      have hxl : (List.take (Utf8.decode s pos).2 (s.data.toList.drop pos)).length = (Utf8.decode s pos).2 := by
        rw [List.length_take]
        have := Lib.decodeL_le _ hne
        rw [← decodeL_at] at this
        omega
      rw [if_pos hp]
      by_cases hnb : n = b
      · subst hnb
        rw [if_pos (by rfl), hst, List.length_cons, if_pos (show n < _ by omega), Nat.sub_self, offP_zero, Nat.add_zero]
        by_cases hna : n = a
        · subst hna
          rw [if_pos (by rfl), if_pos (by omega)]
          simp [offP]
        · rw [if_neg (by omega), if_neg (by omega)]
          simp [offP]
      · rw [if_neg (by omega), slGo_pts s a b hab f _ _ _ (by omega) (by omega), hst, List.length_cons]
        generalize hP : ptsL (s.data.toList.drop (pos + (Utf8.decode s pos).2)) = P at *
        congr 1
        · by_cases hna : n = a
          · subst hna
            rw [if_neg (by omega), if_pos (by rfl), if_pos (by omega), Nat.sub_self, offP_zero, Nat.add_zero]
          · rw [if_neg (show ¬ (n : Int) = (a : Int) by omega)]
            by_cases q : n + 1 ≤ a ∧ a < n + 1 + P.length
            · rw [if_pos q, if_pos (by omega), show a - n = (a - (n + 1)) + 1 by omega, offP_succ, hxl]
              omega
            · rw [if_neg q, if_neg (by omega)]
        · by_cases q : b < n + 1 + P.length
          · rw [if_pos q, if_pos (by omega), show b - n = (b - (n + 1)) + 1 by omega, offP_succ, hxl]
            omega
          · rw [if_neg q, if_neg (by omega)]
    · rw [if_neg hp, drop_end s pos hp, ptsL_nil]
      simp only [List.length_nil, Nat.add_zero]
      rw [if_neg (by omega), if_neg (by omega)]
theorem offP_all (P : List (List UInt8)) : offP P P.length = P.flatten.length := by unfold offP; rw [List.take_length]
theorem cut_join (P : List (List UInt8)) (a b : Nat) (hab : a ≤ b) : (P.flatten.take (offP P b)).drop (offP P a) = joinL P a b := by
  have e1 : P.flatten.take (offP P b) = (P.take b).flatten := by
    conv => lhs; rw [← List.take_append_drop b P, List.flatten_append]
    unfold offP
    exact List.take_left' (by simp)
  have e2 : (P.take b).flatten = (P.take a).flatten ++ ((P.take b).drop a).flatten := by
    conv => lhs; rw [← List.take_append_drop a (P.take b), List.flatten_append]
    rw [List.take_take, Nat.min_eq_left hab]
  rw [e1, e2]
  unfold offP joinL
  exact List.drop_left' rfl
theorem sliceF_join (l : List UInt8) (hv : rfix l = l) (a b : Nat) (hab : a ≤ b) (hb : b ≤ (ptsL l).length) : sliceF l a b = joinL (ptsL l) a b := by
  unfold sliceF
  by_cases h : (b : Int) ≤ max (a : Int) 0
  · rw [if_pos h, joinL_stop _ _ _ (.inl (by omega))]
  · rw [if_neg h, fix_rfix, hv, show max (a : Int) 0 = (a : Int) by omega, slGo_pts ⟨l.toArray⟩ a b hab l.length 0 0 l.length (by show l.toArray.size ≤ _; simp) (Nat.zero_le _)]
    have hd : (⟨l.toArray⟩ : ByteArray).data.toList.drop 0 = l := rfl
    have hfl : (ptsL l).flatten = l := ptsL_join l.length l (Nat.le_refl _)
    have hsz : (⟨l.toArray⟩ : ByteArray).size = l.length := by show l.toArray.size = _; simp
    have hall := offP_all (ptsL l)
    rw [hfl] at hall
    rw [hd, Nat.zero_add, hsz]
    have e1 : (if 0 ≤ a ∧ a < (ptsL l).length then 0 + offP (ptsL l) (a - 0) else l.length) = offP (ptsL l) a := by
      by_cases q : a < (ptsL l).length
      · rw [if_pos ⟨by omega, q⟩]; simp
      · rw [if_neg (by omega), ← hall, show a = (ptsL l).length by omega]
    have e2 : (if b < (ptsL l).length then 0 + offP (ptsL l) (b - 0) else l.length) = offP (ptsL l) b := by
      by_cases q : b < (ptsL l).length
      · rw [if_pos q]; simp
      · rw [if_neg (by omega), ← hall, show b = (ptsL l).length by omega]
    rw [e1, e2]
    unfold exL
    rw [ByteArray.data_extract, Array.toList_extract, List.extract_eq_take_drop]
    have := cut_join (ptsL l) a b hab
    rw [hfl] at this
    rw [← this, List.drop_take]
/-! ### what is repaired is valid -/
theorem szL_app (l t : List UInt8) (h : szL l ≠ 0) : szL (l.take (szL l) ++ t) = szL l ∧ (l.take (szL l)).length = szL l := by
  have hne : l ≠ [] := fun e => h (by rw [e]; rfl)
  have hle := szL_le l
  have hlen : (l.take (szL l)).length = szL l := by rw [List.length_take]; omega
  refine ⟨?_, hlen⟩
  have hne2 : l.take (szL l) ++ t ≠ [] := fun e => by
    have := congrArg List.length e
    rw [List.length_append, hlen] at this
    simp at this
    omega
  have hl0 : 0 < l.length := List.length_pos_iff.2 hne
  obtain ⟨z, hz⟩ : ∃ z, szL l = z := ⟨_, rfl⟩
  rw [hz] at h hle hlen hne2 ⊢
  have g : ∀ k, k < z → (l.take z ++ t).getD k 0 = l.getD k 0 := by
    intro k hk
    rw [List.getD_eq_getElem?_getD, List.getD_eq_getElem?_getD, List.getElem?_append_left (by omega), List.getElem?_take, if_pos hk]
  rw [szL_N _ hne2, List.length_append, hlen]
  rw [szL_N _ hne] at hz
  have hz0 : 0 < z + t.length := by omega
  have zz : ∀ b lo hi, inN (z + t.length) 0 b lo hi = inN l.length 0 b lo hi := fun b lo hi => by
    unfold inN
    rw [decide_eq_true hz0, decide_eq_true hl0]
  have mm : ∀ i b lo hi, i < z → inN l.length i b lo hi = true → inN (z + t.length) i b lo hi = true := fun i b lo hi hi' h => by
    unfold inN at h ⊢
    simp only [Bool.and_eq_true, decide_eq_true_eq] at h ⊢
    omega
  have nn : ∀ b lo hi, (b < lo ∨ hi < b) → inN l.length 0 b lo hi = false := fun b lo hi h => by
    unfold inN
    simp only [Bool.and_eq_false_iff, decide_eq_false_iff_not]
    omega
  have bb : ∀ b lo hi, inN l.length 0 b lo hi = true → lo ≤ b ∧ b ≤ hi := fun b lo hi h => by
    unfold inN at h
    simp only [Bool.and_eq_true, decide_eq_true_eq] at h
    omega
  have ss : ∀ b0 b1, 1 < z → secN l.length b0 b1 = true → secN (z + t.length) b0 b1 = true := fun b0 b1 h1 h => by
    unfold secN at h ⊢
    by_cases q0 : b0 = 224
    · rw [if_pos q0] at h ⊢; exact mm _ _ _ _ h1 h
    rw [if_neg q0] at h ⊢
    by_cases q1 : b0 = 237
    · rw [if_pos q1] at h ⊢; exact mm _ _ _ _ h1 h
    rw [if_neg q1] at h ⊢
    by_cases q2 : b0 = 240
    · rw [if_pos q2] at h ⊢; exact mm _ _ _ _ h1 h
    rw [if_neg q2] at h ⊢
    by_cases q3 : b0 = 244
    · rw [if_pos q3] at h ⊢; exact mm _ _ _ _ h1 h
    · rw [if_neg q3] at h ⊢; exact mm _ _ _ _ h1 h
  unfold szN at hz ⊢
  by_cases c1 : inN l.length 0 (l.getD 0 0).toNat 0 127 = true
  · rw [if_pos c1] at hz
    subst hz
    rw [g 0 (by omega), zz, if_pos c1]
  · rw [if_neg c1] at hz
    by_cases c2 : (inN l.length 0 (l.getD 0 0).toNat 194 223 && inN l.length 1 (l.getD 1 0).toNat 128 191) = true
    · rw [if_pos c2] at hz
      subst hz
      rw [Bool.and_eq_true] at c2
      rw [g 0 (by omega), g 1 (by omega), zz, zz, if_neg c1, if_pos (by rw [c2.1, mm _ _ _ _ (by omega) c2.2]; rfl)]
    · rw [if_neg c2] at hz
      by_cases c3 : (inN l.length 0 (l.getD 0 0).toNat 224 239 && secN l.length (l.getD 0 0).toNat (l.getD 1 0).toNat && inN l.length 2 (l.getD 2 0).toNat 128 191) = true
      · rw [if_pos c3] at hz
        subst hz
        rw [Bool.and_eq_true, Bool.and_eq_true] at c3
        have hb := bb _ _ _ c3.1.1
        rw [g 0 (by omega), g 1 (by omega), g 2 (by omega), zz, zz, zz, if_neg c1, nn (l.getD 0 0).toNat 194 223 (by omega), Bool.false_and, if_neg (by simp), if_pos (by rw [c3.1.1, ss _ _ (by omega) c3.1.2, mm _ _ _ _ (by omega) c3.2]; rfl)]
      · rw [if_neg c3] at hz
        by_cases c4 : (inN l.length 0 (l.getD 0 0).toNat 240 244 && secN l.length (l.getD 0 0).toNat (l.getD 1 0).toNat && (inN l.length 2 (l.getD 2 0).toNat 128 191 && inN l.length 3 (l.getD 3 0).toNat 128 191)) = true
        · rw [if_pos c4] at hz
          subst hz
          rw [Bool.and_eq_true, Bool.and_eq_true, Bool.and_eq_true] at c4
          have hb := bb _ _ _ c4.1.1
          rw [g 0 (by omega), g 1 (by omega), g 2 (by omega), g 3 (by omega), zz, zz, zz, zz, if_neg c1, nn (l.getD 0 0).toNat 194 223 (by omega), nn (l.getD 0 0).toNat 224 239 (by omega), Bool.false_and, Bool.false_and, Bool.false_and, if_neg (by simp), if_neg (by simp),
            if_pos (by rw [c4.1.1, ss _ _ (by omega) c4.1.2, mm _ _ _ _ (by omega) c4.2.1, mm _ _ _ _ (by omega) c4.2.2]; rfl)]
        · rw [if_neg c4] at hz
          exact absurd hz.symm h
theorem rfix_app_bad (t : List UInt8) : rfix ([239, 191, 189] ++ t) = [239, 191, 189] ++ rfix t := by
  have h3 : szL ([239, 191, 189] ++ t) = 3 := by
    have := (szL_app [239, 191, 189] t (by decide)).1
    rw [show szL [239, 191, 189] = 3 by decide] at this
    exact this
  rw [rfix_step _ (by simp), h3, if_neg (by omega)]
  rfl
theorem rfix_twice (n : Nat) : ∀ (l : List UInt8), l.length ≤ n → rfix (rfix l) = rfix l := by
  induction n with
  | zero =>
    intro l h
    have : l = [] := List.eq_nil_of_length_eq_zero (by omega)
    subst this
    rfl
  | succ n ih =>
    intro l h
    by_cases hne : l = []
    · subst hne; rfl
    · have hl : 0 < l.length := List.length_pos_iff.2 hne
      have e := rfix_step l hne
      by_cases h0 : szL l = 0
      · rw [if_pos h0] at e
        rw [e, rfix_app_bad, ih _ (by rw [List.length_drop]; omega)]
      · rw [if_neg h0] at e
        obtain ⟨h1, h2⟩ := szL_app l (rfix (l.drop (szL l))) h0
        have hne2 : l.take (szL l) ++ rfix (l.drop (szL l)) ≠ [] := fun e2 => by
          have := congrArg List.length e2
          rw [List.length_append, h2] at this
          simp at this
          omega
        have e3 := rfix_step _ hne2
        rw [h1, if_neg h0, List.take_left' h2, List.drop_left' h2, ih _ (by rw [List.length_drop]; omega)] at e3
        rw [e, e3]
theorem rfix_rfix (l : List UInt8) : rfix (rfix l) = rfix l := rfix_twice l.length l (Nat.le_refl _)
theorem rfix_cat (n : Nat) : ∀ (l t : List UInt8), l.length ≤ n → rfix l = l → rfix (l ++ t) = l ++ rfix t := by
  induction n with
  | zero =>
    intro l t h _
    have : l = [] := List.eq_nil_of_length_eq_zero (by omega)
    subst this
    rfl
  | succ n ih =>
    intro l t h hv
    by_cases hne : l = []
    · subst hne; rfl
    · have hl : 0 < l.length := List.length_pos_iff.2 hne
      have e := rfix_step l hne
      rw [hv] at e
      by_cases h0 : szL l = 0
      · rw [if_pos h0] at e
        have := congrArg List.length e
        have h2 := rfix_len_ge (l.drop 1)
        rw [List.length_append, List.length_cons, List.length_cons, List.length_cons, List.length_nil] at this
        rw [List.length_drop] at h2
        omega
      · rw [if_neg h0] at e
        have e2 : rfix (l.drop (szL l)) = l.drop (szL l) := by
          have e3 : l.take (szL l) ++ l.drop (szL l) = l.take (szL l) ++ rfix (l.drop (szL l)) := (List.take_append_drop _ _).trans e
          exact (List.append_cancel_left e3).symm
        have hlt : l ++ t = l.take (szL l) ++ (l.drop (szL l) ++ t) := by rw [← List.append_assoc, List.take_append_drop]
        obtain ⟨h1, h2⟩ := szL_app l (l.drop (szL l) ++ t) h0
        rw [hlt, rfix_step _ (by intro e4; have := congrArg List.length e4; rw [List.length_append, h2] at this; simp at this; omega), h1, if_neg h0, List.take_left' h2, List.drop_left' h2, ih _ _ (by rw [List.length_drop]; omega) e2, ← List.append_assoc, List.take_append_drop]
theorem rfix_append (l t : List UInt8) (h1 : rfix l = l) (h2 : rfix t = t) : rfix (l ++ t) = l ++ t := by
  rw [rfix_cat l.length l t (Nat.le_refl _) h1, h2]
def Vd (l : List UInt8) : Prop := rfix l = l
theorem Vd.nil : Vd [] := rfix_nil
theorem Vd.app {a b : List UInt8} (h1 : Vd a) (h2 : Vd b) : Vd (a ++ b) := rfix_append a b h1 h2
theorem vd_sz {l : List UInt8} (h : Vd l) (hne : l ≠ []) : szL l ≠ 0 ∧ Vd (l.take (szL l)) ∧ Vd (l.drop (szL l)) ∧ ptsL (l.take (szL l)) = [l.take (szL l)] := by
  have hl : 0 < l.length := List.length_pos_iff.2 hne
  have e := rfix_step l hne
  rw [h] at e
  by_cases h0 : szL l = 0
  · rw [if_pos h0] at e
    have := congrArg List.length e
    have h2 := rfix_len_ge (l.drop 1)
    rw [List.length_append, List.length_cons, List.length_cons, List.length_cons, List.length_nil] at this
    rw [List.length_drop] at h2
    omega
  · rw [if_neg h0] at e
    have e2 : rfix (l.drop (szL l)) = l.drop (szL l) := by
      have e3 : l.take (szL l) ++ l.drop (szL l) = l.take (szL l) ++ rfix (l.drop (szL l)) := (List.take_append_drop _ _).trans e
      exact (List.append_cancel_left e3).symm
    obtain ⟨h1, h2⟩ := szL_app l [] h0
    rw [List.append_nil] at h1
    have hne2 : l.take (szL l) ≠ [] := by intro e4; have := congrArg List.length e4; rw [h2] at this; simp at this; omega
    have e5 := rfix_step (l.take (szL l)) hne2
    have e6 : (l.take (szL l)).take (szL l) = l.take (szL l) := by rw [List.take_take, Nat.min_self]
    have e7 : (l.take (szL l)).drop (szL l) = [] := List.drop_eq_nil_of_le (by omega)
    refine ⟨h0, ?_, e2, ?_⟩
    · rw [h1, if_neg h0, e6, e7, rfix_nil, List.append_nil] at e5
      exact e5
    · rw [ptsL_step _ hne2, h1, show max (szL l) 1 = szL l by omega, e6, e7, ptsL_nil]
theorem pts_cat (n : Nat) : ∀ (l t : List UInt8), l.length ≤ n → Vd l → ptsL (l ++ t) = ptsL l ++ ptsL t := by
  induction n with
  | zero =>
    intro l t h _
    have : l = [] := List.eq_nil_of_length_eq_zero (by omega)
    subst this
    rfl
  | succ n ih =>
    intro l t h hv
    by_cases hne : l = []
    · subst hne; rfl
    · have hl : 0 < l.length := List.length_pos_iff.2 hne
      obtain ⟨h0, h3, h4, _⟩ := vd_sz hv hne
      obtain ⟨h1, h2⟩ := szL_app l (l.drop (szL l) ++ t) h0
      have hlt : l ++ t = l.take (szL l) ++ (l.drop (szL l) ++ t) := by rw [← List.append_assoc, List.take_append_drop]
      have hm : max (szL l) 1 = szL l := by omega
      rw [hlt, ptsL_step _ (by intro e4; have := congrArg List.length e4; rw [List.length_append, h2] at this; simp at this; omega), h1, hm, List.take_left' h2, List.drop_left' h2, ih _ _ (by rw [List.length_drop]; omega) h4, ptsL_step l hne, hm]
      rfl
theorem pts_app {a : List UInt8} (b : List UInt8) (h : Vd a) : ptsL (a ++ b) = ptsL a ++ ptsL b := pts_cat a.length a b (Nat.le_refl _) h
theorem pts_flat (l : List UInt8) : (ptsL l).flatten = l := ptsL_join l.length l (Nat.le_refl _)
theorem pts_one (n : Nat) : ∀ (l : List UInt8), l.length ≤ n → Vd l → ∀ x ∈ ptsL l, ptsL x = [x] ∧ Vd x := by
  induction n with
  | zero =>
    intro l h _ x hx
    have : l = [] := List.eq_nil_of_length_eq_zero (by omega)
    subst this
    cases hx
  | succ n ih =>
    intro l h hv x hx
    by_cases hne : l = []
    · subst hne; cases hx
    · have hl : 0 < l.length := List.length_pos_iff.2 hne
      obtain ⟨h0, h3, h4, h5⟩ := vd_sz hv hne
      rw [ptsL_step l hne, show max (szL l) 1 = szL l by omega, List.mem_cons] at hx
      rcases hx with rfl | hx
      · exact ⟨h5, h3⟩
      · exact ih _ (by rw [List.length_drop]; omega) h4 x hx
theorem pts_of : ∀ (P : List (List UInt8)), (∀ x ∈ P, ptsL x = [x] ∧ Vd x) → ptsL P.flatten = P ∧ Vd P.flatten
  | [], _ => ⟨rfl, Vd.nil⟩
  | x :: P, h => by
    obtain ⟨h1, h2⟩ := h x (by simp)
    obtain ⟨h3, h4⟩ := pts_of P fun y hy => h y (by simp [hy])
    rw [List.flatten_cons]
    exact ⟨by rw [pts_app _ h2, h1, h3]; rfl, h2.app h4⟩
def nL (l : List UInt8) : Nat := (ptsL l).length
theorem nL_nil : nL [] = 0 := rfl
theorem nL_app {a : List UInt8} (b : List UInt8) (h : Vd a) : nL (a ++ b) = nL a + nL b := by unfold nL; rw [pts_app b h, List.length_append]
theorem nL_le (l : List UInt8) : nL l ≤ l.length := ptsL_len l.length l (Nat.le_refl _)
def cutL (l : List UInt8) (a b : Nat) : List UInt8 := joinL (ptsL l) a b
theorem cut_pts {l : List UInt8} (h : Vd l) (a b : Nat) : ptsL (cutL l a b) = ((ptsL l).take b).drop a ∧ Vd (cutL l a b) :=
  pts_of _ fun x hx => pts_one l.length l (Nat.le_refl _) h x (List.mem_of_mem_take (List.mem_of_mem_drop hx))
theorem cut_vd {l : List UInt8} (h : Vd l) (a b : Nat) : Vd (cutL l a b) := (cut_pts h a b).2
theorem cut_n {l : List UInt8} (h : Vd l) {a b : Nat} (hb : b ≤ nL l) : nL (cutL l a b) = b - a := by
  unfold nL
  rw [(cut_pts h a b).1, List.length_drop, List.length_take]
  unfold nL at hb
  omega
theorem cut_none {l : List UInt8} {a b : Nat} (h : b ≤ a ∨ nL l ≤ a) : cutL l a b = [] := joinL_stop _ _ _ h
theorem cut_len (l : List UInt8) (a b : Nat) : (cutL l a b).length ≤ l.length := by
  have := joinL_len (ptsL l) a b
  rw [pts_flat] at this
  exact this
theorem cut_three (l : List UInt8) {a b : Nat} (hab : a ≤ b) (hb : b ≤ nL l) : l = cutL l 0 a ++ (cutL l a b ++ cutL l b (nL l)) := by
  have e : ptsL l = (ptsL l).take a ++ (((ptsL l).take b).drop a ++ (ptsL l).drop b) := by
    rw [← List.append_assoc]
    have h1 : (ptsL l).take a ++ ((ptsL l).take b).drop a = (ptsL l).take b := by
      have := List.take_append_drop a ((ptsL l).take b)
      rwa [List.take_take, Nat.min_eq_left hab] at this
    rw [h1, List.take_append_drop]
  have := congrArg List.flatten e
  rw [pts_flat, List.flatten_append, List.flatten_append] at this
  unfold cutL joinL nL
  rw [List.take_length]
  simpa using this
theorem cut_mid {a m z : List UInt8} (ha : Vd a) (hm : Vd m) : cutL (a ++ (m ++ z)) 0 (nL a) = a ∧ cutL (a ++ (m ++ z)) (nL a) (nL a + nL m) = m ∧ cutL (a ++ (m ++ z)) (nL a + nL m) (nL (a ++ (m ++ z))) = z := by
  have e : ptsL (a ++ (m ++ z)) = ptsL a ++ (ptsL m ++ ptsL z) := by rw [pts_app _ ha, pts_app _ hm]
  unfold cutL joinL nL
  rw [e]
  refine ⟨?_, ?_, ?_⟩
  · rw [List.take_left' rfl, List.drop_zero, pts_flat]
  · rw [← List.append_assoc, List.take_left' (by rw [List.length_append]), List.drop_left' rfl, pts_flat]
  · rw [← List.append_assoc, List.take_of_length_le (by simp), List.drop_left' (by rw [List.length_append]), pts_flat]
theorem slice_cut {l : List UInt8} (h : Vd l) {a b : Nat} (hab : a ≤ b) (hb : b ≤ nL l) : sliceF l (a : Int) (b : Int) = cutL l a b := sliceF_join l h a b hab hb
/-! ### the program's field -/
structure FE where
  at_ : Nat
  old : List UInt8
  new : List UInt8
  st : Nat
  en : Nat
structure FT where
  val : List UInt8
  st : Nat
  en : Nat
  undo : List FE
  redo : List FE
def FT.of (v : List UInt8) : FT := ⟨v, nL v, nL v, [], []⟩
def FT.set (F : FT) (v : List UInt8) : FT := ⟨v, nL v, nL v, [], []⟩
def FT.sel (F : FT) (a b : Int) : FT := { F with st := (min (max a 0) (nL F.val : Int)).toNat, en := (max (min (max b 0) (nL F.val : Int)) (min (max a 0) (nL F.val : Int))).toNat }
def keepE {α : Type} (l : List α) : List α := l.drop (l.length - 100)
def FT.rep (F : FT) (a b : Nat) (v : List UInt8) (s e : Nat) : FT :=
  if cutL F.val a b = [] ∧ v = [] then F
  else ⟨cutL F.val 0 a ++ (v ++ cutL F.val b (nL F.val)), a + nL v, a + nL v, keepE (F.undo ++ [⟨a, cutL F.val a b, v, s, e⟩]), []⟩
def FT.ins (F : FT) (v : List UInt8) : FT := F.rep F.st F.en v F.st F.en
def FT.del (F : FT) (fw : Bool) : FT :=
  if F.st = F.en then (if fw then F.rep F.st (F.en + 1) [] F.st F.en else F.rep (F.st - 1) F.en [] F.st F.en) else F.rep F.st F.en [] F.st F.en
def FT.back (F : FT) : FT :=
  match F.undo.getLast? with
  | none => F
  | some x => ⟨cutL F.val 0 x.at_ ++ (x.old ++ cutL F.val (x.at_ + nL x.new) (nL F.val)), x.st, x.en, F.undo.dropLast, F.redo ++ [x]⟩
def FT.forth (F : FT) : FT :=
  match F.redo.getLast? with
  | none => F
  | some x => ⟨cutL F.val 0 x.at_ ++ (x.new ++ cutL F.val (x.at_ + nL x.old) (nL F.val)), x.at_ + nL x.new, x.at_ + nL x.new, F.undo ++ [x], F.redo.dropLast⟩
structure Mo where
  val : List UInt8
  st : Nat
  en : Nat
structure RE where
  now : Mo
  undo : List (Mo × Mo)
  redo : List (Mo × Mo)
def RE.set (E : RE) (v : List UInt8) : RE := ⟨⟨v, nL v, nL v⟩, [], []⟩
def RE.sel (E : RE) (a b : Int) : RE :=
  { E with now := ⟨E.now.val, (min (max a 0) (nL E.now.val : Int)).toNat, (min (max b (min (max a 0) (nL E.now.val : Int))) (nL E.now.val : Int)).toNat⟩ }
def RE.rep (E : RE) (a b : Nat) (v : List UInt8) : RE :=
  if a = b ∧ v = [] then E
  else ⟨⟨cutL E.now.val 0 a ++ (v ++ cutL E.now.val b (nL E.now.val)), a + nL v, a + nL v⟩, keepE (E.undo ++ [(E.now, ⟨cutL E.now.val 0 a ++ (v ++ cutL E.now.val b (nL E.now.val)), a + nL v, a + nL v⟩)]), []⟩
def RE.ins (E : RE) (v : List UInt8) : RE := E.rep E.now.st E.now.en v
def RE.del (E : RE) (fw : Bool) : RE :=
  if E.now.st = E.now.en ∧ fw = true then E.rep E.now.st (min (E.now.en + 1) (nL E.now.val)) []
  else if E.now.st = E.now.en then E.rep (E.now.st - 1) E.now.en [] else E.rep E.now.st E.now.en []
def RE.back (E : RE) : RE :=
  match E.undo.getLast? with
  | none => E
  | some x => ⟨x.1, E.undo.dropLast, E.redo ++ [x]⟩
def RE.forth (E : RE) : RE :=
  match E.redo.getLast? with
  | none => E
  | some x => ⟨x.2, E.undo ++ [x], E.redo.dropLast⟩
structure EdOk (e : FE) (c : Mo × Mo) (N : Nat) : Prop where
  ex : ∃ a z, Vd a ∧ Vd z ∧ Vd e.old ∧ Vd e.new ∧ c.1.val = a ++ (e.old ++ z) ∧ c.2.val = a ++ (e.new ++ z) ∧ e.at_ = nL a
  st : e.st = c.1.st
  en : e.en = c.1.en
  le : c.1.st ≤ c.1.en
  in_ : c.1.en ≤ nL c.1.val
  s2 : c.2.st = e.at_ + nL e.new
  e2 : c.2.en = e.at_ + nL e.new
  n1 : c.1.val.length ≤ N
  n2 : c.2.val.length ≤ N
theorem EdOk.mono {e : FE} {c : Mo × Mo} {N N' : Nat} (h : EdOk e c N) (hN : N ≤ N') : EdOk e c N' := { h with n1 := Nat.le_trans h.n1 hN, n2 := Nat.le_trans h.n2 hN }
theorem EdOk.vd {e : FE} {c : Mo × Mo} {N : Nat} (h : EdOk e c N) : Vd c.1.val ∧ Vd c.2.val := by
  obtain ⟨a, z, ha, hz, ho, hn, e1, e2, _⟩ := h.ex
  exact ⟨e1 ▸ ha.app (ho.app hz), e2 ▸ ha.app (hn.app hz)⟩
inductive Und (N : Nat) : List FE → List (Mo × Mo) → List UInt8 → Prop
  | nil (v) : Und N [] [] v
  | snoc (us cs e c) (h : Und N us cs c.1.val) (k : EdOk e c N) : Und N (us ++ [e]) (cs ++ [c]) c.2.val
inductive Red (N : Nat) : List FE → List (Mo × Mo) → List UInt8 → Prop
  | nil (v) : Red N [] [] v
  | snoc (us cs e c) (h : Red N us cs c.2.val) (k : EdOk e c N) : Red N (us ++ [e]) (cs ++ [c]) c.1.val
theorem Und.mono {N N' : Nat} (hN : N ≤ N') {us cs v} (h : Und N us cs v) : Und N' us cs v := by
  induction h with
  | nil v => exact .nil v
  | snoc us cs e c h k ih => exact .snoc us cs e c ih (k.mono hN)
theorem Red.mono {N N' : Nat} (hN : N ≤ N') {us cs v} (h : Red N us cs v) : Red N' us cs v := by
  induction h with
  | nil v => exact .nil v
  | snoc us cs e c h k ih => exact .snoc us cs e c ih (k.mono hN)
theorem Und.len {N us cs v} (h : Und N us cs v) : us.length = cs.length := by
  induction h with
  | nil v => rfl
  | snoc us cs e c h k ih => simp [ih]
theorem Red.len {N us cs v} (h : Red N us cs v) : us.length = cs.length := by
  induction h with
  | nil v => rfl
  | snoc us cs e c h k ih => simp [ih]
theorem Und.drop {N us cs v} (h : Und N us cs v) (n : Nat) : Und N (us.drop n) (cs.drop n) v := by
  induction h with
  | nil v => simp only [List.drop_nil]; exact .nil v
  | snoc us cs e c h k ih =>
    have hl := h.len
    by_cases hn : n ≤ us.length
    · rw [List.drop_append_of_le_length hn, List.drop_append_of_le_length (hl ▸ hn)]
      exact .snoc _ _ e c ih k
    · rw [List.drop_eq_nil_of_le (by simp; omega), List.drop_eq_nil_of_le (by simp; omega)]
      exact .nil _
theorem Und.keep {N us cs v} (h : Und N us cs v) : Und N (keepE us) (keepE cs) v := by
  unfold keepE
  rw [h.len]
  exact h.drop _
theorem Und.last {N us cs v} (h : Und N us cs v) : (us = [] ∧ cs = []) ∨ ∃ us' cs' e c, us = us' ++ [e] ∧ cs = cs' ++ [c] ∧ Und N us' cs' c.1.val ∧ EdOk e c N ∧ v = c.2.val := by
  cases h with
  | nil v => exact .inl ⟨rfl, rfl⟩
  | snoc us cs e c h k => exact .inr ⟨us, cs, e, c, rfl, rfl, h, k, rfl⟩
theorem Red.last {N us cs v} (h : Red N us cs v) : (us = [] ∧ cs = []) ∨ ∃ us' cs' e c, us = us' ++ [e] ∧ cs = cs' ++ [c] ∧ Red N us' cs' c.2.val ∧ EdOk e c N ∧ v = c.1.val := by
  cases h with
  | nil v => exact .inl ⟨rfl, rfl⟩
  | snoc us cs e c h k => exact .inr ⟨us, cs, e, c, rfl, rfl, h, k, rfl⟩
structure Ag (N : Nat) (F : FT) (E : RE) : Prop where
  val : E.now.val = F.val
  st : E.now.st = F.st
  en : E.now.en = F.en
  le : F.st ≤ F.en
  in_ : F.en ≤ nL F.val
  vd : Vd F.val
  n : F.val.length ≤ N
  und : Und N F.undo E.undo F.val
  red : Red N F.redo E.redo F.val
  few : F.undo.length + F.redo.length ≤ 100
theorem Ag.mono {N N' : Nat} (hN : N ≤ N') {F E} (h : Ag N F E) : Ag N' F E :=
  { h with n := Nat.le_trans h.n hN, und := h.und.mono hN, red := h.red.mono hN }
theorem Ag.of {v : List UInt8} (h : Vd v) {N : Nat} (hN : v.length ≤ N) : Ag N (FT.of v) ⟨⟨v, nL v, nL v⟩, [], []⟩ :=
  ⟨rfl, rfl, rfl, Nat.le_refl _, Nat.le_refl _, h, hN, .nil _, .nil _, by simp [FT.of]⟩
theorem Ag.set {N : Nat} {F E} (h : Ag N F E) {v : List UInt8} (hv : Vd v) (hN : v.length ≤ N) : Ag N (F.set v) (E.set v) :=
  ⟨rfl, rfl, rfl, Nat.le_refl _, Nat.le_refl _, hv, hN, .nil _, .nil _, by simp [FT.set]⟩
theorem Ag.sel {N : Nat} {F E} (h : Ag N F E) (a b : Int) : Ag N (F.sel a b) (E.sel a b) := by
  refine ⟨h.val, ?_, ?_, ?_, ?_, h.vd, h.n, h.und, h.red, h.few⟩
  · simp only [RE.sel, FT.sel, h.val]
  · simp only [RE.sel, FT.sel, h.val]
    congr 1
    omega
  · simp only [FT.sel]; omega
  · simp only [FT.sel]; omega
theorem keepE_len {α : Type} (l : List α) : (keepE l).length ≤ 100 := by unfold keepE; rw [List.length_drop]; omega
theorem Ag.rep {N : Nat} {F E} (h : Ag N F E) {a b b' : Nat} {v : List UInt8} (hab : a ≤ b) (hb : b ≤ nL F.val) (hb' : b' = b ∨ (a = b ∧ v = [] ∧ b = nL F.val)) (hv : Vd v) {N' : Nat} (hN : N + v.length ≤ N') : Ag N' (F.rep a b' v F.st F.en) (E.rep a b v) := by
  have hcn := cut_n h.vd (a := a) hb
  by_cases h0 : a = b ∧ v = []
  · obtain ⟨rfl, rfl⟩ := h0
    have : cutL F.val a b' = [] := cut_none (by rcases hb' with rfl | ⟨_, _, e⟩ <;> omega)
    unfold FT.rep RE.rep
    rw [if_pos ⟨this, rfl⟩, if_pos ⟨rfl, rfl⟩]
    exact h.mono (by omega)
  · obtain rfl : b' = b := by
      rcases hb' with e | ⟨e1, e2, _⟩
      · exact e
      · exact absurd ⟨e1, e2⟩ h0
    have h1 : ¬ (cutL F.val a b' = [] ∧ v = []) := by
      rintro ⟨e1, e2⟩
      refine h0 ⟨?_, e2⟩
      rw [e1, nL_nil] at hcn
      omega
    unfold FT.rep RE.rep
    rw [if_neg h1, if_neg h0, h.val]
    have va := cut_vd h.vd 0 a
    have vm := cut_vd h.vd a b'
    have vz := cut_vd h.vd b' (nL F.val)
    have na : nL (cutL F.val 0 a) = a := by rw [cut_n h.vd (by omega)]; omega
    have e3 := cut_three F.val hab hb
    have hlen := congrArg List.length e3
    simp only [List.length_append] at hlen
    have hN2 : (cutL F.val 0 a ++ (v ++ cutL F.val b' (nL F.val))).length ≤ N' := by
      have := h.n
      simp only [List.length_append]
      omega
    refine ⟨rfl, rfl, rfl, Nat.le_refl _, ?_, va.app (hv.app vz), hN2, ?_, .nil _, ?_⟩
    · rw [nL_app _ va, nL_app _ hv, na]; simp only; omega
    · have k : EdOk ⟨a, cutL F.val a b', v, F.st, F.en⟩ (E.now, (⟨cutL F.val 0 a ++ (v ++ cutL F.val b' (nL F.val)), a + nL v, a + nL v⟩ : Mo)) N' := by
        refine ⟨⟨cutL F.val 0 a, cutL F.val b' (nL F.val), va, vz, vm, hv, by rw [h.val]; exact e3, rfl, na.symm⟩, h.st.symm, h.en.symm, ?_, ?_, rfl, rfl, ?_, hN2⟩
        · rw [h.st, h.en]; exact h.le
        · rw [h.en, h.val]; exact h.in_
        · rw [h.val]; exact Nat.le_trans h.n (by omega)
      have := Und.snoc _ _ _ _ (h.val ▸ h.und.mono (show N ≤ N' by omega)) k
      exact this.keep
    · have := keepE_len (F.undo ++ [⟨a, cutL F.val a b', v, F.st, F.en⟩])
      simpa using this
theorem Ag.ins {N : Nat} {F E} (h : Ag N F E) {v : List UInt8} (hv : Vd v) {N' : Nat} (hN : N + v.length ≤ N') : Ag N' (F.ins v) (E.ins v) := by
  unfold FT.ins RE.ins
  rw [h.st, h.en]
  exact h.rep h.le h.in_ (.inl rfl) hv hN
theorem Ag.del {N : Nat} {F E} (h : Ag N F E) (fw : Bool) : Ag N (F.del fw) (E.del fw) := by
  have hin := h.in_
  have hle := h.le
  unfold FT.del RE.del
  rw [h.st, h.en, h.val]
  by_cases e : F.st = F.en
  · cases fw with
    | true =>
      rw [if_pos e, if_pos rfl, if_pos ⟨e, rfl⟩]
      by_cases q : F.en + 1 ≤ nL F.val
      · rw [Nat.min_eq_left q]
        exact h.rep (by omega) q (.inl rfl) Vd.nil (by simp)
      · rw [Nat.min_eq_right (by omega)]
        exact h.rep (by omega) (Nat.le_refl _) (.inr ⟨by omega, rfl, rfl⟩) Vd.nil (by simp)
    | false =>
      rw [if_pos e, if_neg (by simp), if_neg (by simp), if_pos e]
      exact h.rep (by omega) hin (.inl rfl) Vd.nil (by simp)
  · rw [if_neg e, if_neg (fun q => e q.1), if_neg e]
    exact h.rep hle hin (.inl rfl) Vd.nil (by simp)
theorem Ag.back {N : Nat} {F E} (h : Ag N F E) : Ag N F.back E.back ∧ (F.undo = [] ↔ E.undo = []) := by
  unfold FT.back RE.back
  have hfew := h.few
  rcases h.und.last with ⟨e1, e2⟩ | ⟨us, cs, e, c, e1, e2, hu, k, ev⟩
  · rw [e1, e2]
    exact ⟨h, by simp⟩
  · rw [e1, e2, List.getLast?_concat, List.getLast?_concat, List.dropLast_concat, List.dropLast_concat]
    obtain ⟨a, z, ha, hz, ho, hn, v1, v2, hat⟩ := k.ex
    have vd1 := k.vd.1
    refine ⟨?_, by simp⟩
    obtain ⟨m1, m2, m3⟩ := cut_mid (z := z) ha hn
    have er : cutL F.val 0 e.at_ ++ (e.old ++ cutL F.val (e.at_ + nL e.new) (nL F.val)) = c.1.val := by rw [ev, v2, hat, m1, m3, v1]
    have hr := Red.snoc F.redo E.redo e c (ev ▸ h.red) k
    refine ⟨er.symm, k.st.symm, k.en.symm, ?_, ?_, ?_, ?_, ?_, ?_, ?_⟩
    · simp only [k.st, k.en]; exact k.le
    · simp only [er, k.en]; exact k.in_
    · simp only [er]; exact vd1
    · simp only [er]; exact k.n1
    · simp only [er]; exact hu
    · simp only [er]; exact hr
    · rw [e1] at hfew; simp at hfew ⊢; omega
theorem Ag.forth {N : Nat} {F E} (h : Ag N F E) : Ag N F.forth E.forth ∧ (F.redo = [] ↔ E.redo = []) := by
  unfold FT.forth RE.forth
  have hfew := h.few
  rcases h.red.last with ⟨e1, e2⟩ | ⟨us, cs, e, c, e1, e2, hu, k, ev⟩
  · rw [e1, e2]
    exact ⟨h, by simp⟩
  · rw [e1, e2, List.getLast?_concat, List.getLast?_concat, List.dropLast_concat, List.dropLast_concat]
    obtain ⟨a, z, ha, hz, ho, hn, v1, v2, hat⟩ := k.ex
    have vd2 := k.vd.2
    refine ⟨?_, by simp⟩
    obtain ⟨m1, m2, m3⟩ := cut_mid (z := z) ha ho
    have er : cutL F.val 0 e.at_ ++ (e.new ++ cutL F.val (e.at_ + nL e.old) (nL F.val)) = c.2.val := by rw [ev, v1, hat, m1, m3, v2]
    have hr := Und.snoc F.undo E.undo e c (ev ▸ h.und) k
    refine ⟨er.symm, k.s2, k.e2, Nat.le_refl _, ?_, ?_, ?_, ?_, ?_, ?_⟩
    · simp only []
      rw [er, v2, nL_app _ ha, nL_app _ hn, hat]; omega
    · simp only [er]; exact vd2
    · simp only [er]; exact k.n2
    · simp only [er]; exact hr
    · simp only [er]; exact hu
    · rw [e1] at hfew; simp at hfew ⊢; omega

end Go.Proofs.YtacdbnhnhdlmpaaGreatDoor.W
end
