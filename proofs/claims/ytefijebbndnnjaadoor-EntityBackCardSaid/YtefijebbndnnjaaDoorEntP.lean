/- EntityNumbers and the rest of layer 5 as plain Lean: the two tables, digits, numbers. No program in sight. -/
import GoSem.Core.Utf8
import Derived.Lib.ValidLaws
import Derived.Lib.IndexMore
set_option linter.unusedVariables false
set_option linter.unusedSimpArgs false
namespace Go.Proofs.YtefijebbndnnjaaDoor.W
def tabE : List (List UInt8 × List UInt8) := [([97, 109, 112], [38]), ([97, 112, 111, 115], [39]), ([98, 117, 108, 108], [226, 128, 162]), ([99, 101, 110, 116], [194, 162]), ([99, 111, 112, 121], [194, 169]), ([100, 101, 103], [194, 176]), ([100, 105, 118, 105, 100, 101], [195, 183]), ([101, 117, 114, 111], [226, 130, 172]), ([103, 116], [62]), ([104, 101, 108, 108, 105, 112], [226, 128, 166]), ([108, 97, 114, 114], [226, 134, 144]), ([108, 100, 113, 117, 111], [226, 128, 156]), ([108, 115, 113, 117, 111], [226, 128, 152]), ([108, 116], [60]), ([109, 100, 97, 115, 104], [226, 128, 148]), ([109, 105, 100, 100, 111, 116], [194, 183]), ([110, 98, 115, 112], [194, 160]), ([110, 100, 97, 115, 104], [226, 128, 147]), ([112, 97, 114, 97], [194, 182]), ([112, 108, 117, 115, 109, 110], [194, 177]), ([112, 111, 117, 110, 100], [194, 163]), ([113, 117, 111, 116], [34]), ([114, 97, 114, 114], [226, 134, 146]), ([114, 100, 113, 117, 111], [226, 128, 157]), ([114, 101, 103], [194, 174]), ([114, 115, 113, 117, 111], [226, 128, 153]), ([115, 101, 99, 116], [194, 167]), ([116, 105, 109, 101, 115], [195, 151]), ([116, 114, 97, 100, 101], [226, 132, 162]), ([121, 101, 110], [194, 165])]
def tabR : List (List UInt8 × List UInt8) := [([97, 109, 112], [38]), ([108, 116], [60]), ([103, 116], [62]), ([113, 117, 111, 116], [34]), ([97, 112, 111, 115], [39]), ([110, 98, 115, 112], [194, 160]), ([99, 111, 112, 121], [194, 169]), ([114, 101, 103], [194, 174]), ([116, 114, 97, 100, 101], [226, 132, 162]), ([104, 101, 108, 108, 105, 112], [226, 128, 166]), ([109, 100, 97, 115, 104], [226, 128, 148]), ([110, 100, 97, 115, 104], [226, 128, 147]), ([108, 115, 113, 117, 111], [226, 128, 152]), ([114, 115, 113, 117, 111], [226, 128, 153]), ([108, 100, 113, 117, 111], [226, 128, 156]), ([114, 100, 113, 117, 111], [226, 128, 157]), ([98, 117, 108, 108], [226, 128, 162]), ([109, 105, 100, 100, 111, 116], [194, 183]), ([116, 105, 109, 101, 115], [195, 151]), ([100, 105, 118, 105, 100, 101], [195, 183]), ([100, 101, 103], [194, 176]), ([112, 108, 117, 115, 109, 110], [194, 177]), ([101, 117, 114, 111], [226, 130, 172]), ([112, 111, 117, 110, 100], [194, 163]), ([121, 101, 110], [194, 165]), ([99, 101, 110, 116], [194, 162]), ([115, 101, 99, 116], [194, 167]), ([112, 97, 114, 97], [194, 182]), ([108, 97, 114, 114], [226, 134, 144]), ([114, 97, 114, 114], [226, 134, 146])]

/-! ### digits and numbers -/
/-- the value of a digit: -1 if it is none -/
def dig (c : UInt8) (base : Int) : Int :=
  let n : Int := if 48 ≤ c.toNat ∧ c.toNat ≤ 57 then (c.toNat : Int) - 48 else if 97 ≤ c.toNat ∧ c.toNat ≤ 102 then (c.toNat : Int) - 87 else if 65 ≤ c.toNat ∧ c.toNat ≤ 70 then (c.toNat : Int) - 55 else -1
  if base ≤ n then -1 else n
/-- the reference's -/
def digR (c : UInt8) (base : Int) : Int :=
  if base = 16 ∧ 65 ≤ c.toNat ∧ c.toNat ≤ 70 then (c.toNat : Int) - 55 else if base = 16 ∧ 97 ≤ c.toNat ∧ c.toNat ≤ 102 then (c.toNat : Int) - 87 else if 48 ≤ c.toNat ∧ c.toNat ≤ 57 then (c.toNat : Int) - 48 else -1
theorem dig_eq (c : UInt8) {base : Int} (hb : base = 10 ∨ base = 16) : dig c base = digR c base := by
  by_cases d : 48 ≤ c.toNat ∧ c.toNat ≤ 57
  · have n1 : ¬ (97 ≤ c.toNat ∧ c.toNat ≤ 102) := by omega
    have n2 : ¬ (65 ≤ c.toNat ∧ c.toNat ≤ 70) := by omega
    rcases hb with rfl | rfl <;> simp only [dig, digR, if_pos d, n1, n2, and_false, if_false] <;> exact if_neg (by omega)
  · by_cases h : 97 ≤ c.toNat ∧ c.toNat ≤ 102
    · have n2 : ¬ (65 ≤ c.toNat ∧ c.toNat ≤ 70) := by omega
      rcases hb with rfl | rfl
      · simp only [dig, digR, if_neg d, if_pos h, n2, and_false, if_false, show ¬ ((10 : Int) = 16) by omega, false_and]; exact if_pos (by omega)
      · simp only [dig, digR, if_neg d, if_pos h, n2, and_false, if_false]
        rw [if_neg (by omega), if_pos ⟨trivial, h⟩]
    · by_cases u : 65 ≤ c.toNat ∧ c.toNat ≤ 70
      · rcases hb with rfl | rfl
        · simp only [dig, digR, if_neg d, if_pos u, h, and_false, if_false, show ¬ ((10 : Int) = 16) by omega, false_and]; exact if_pos (by omega)
        · simp only [dig, digR, if_neg d, if_pos u, h, and_false, if_false]
          rw [if_neg (by omega), if_pos ⟨trivial, u⟩]
      · simp only [dig, digR, if_neg d, u, h, and_false, if_false]
        split <;> rfl
theorem digR_lt (c : UInt8) {base : Int} (hb : base = 10 ∨ base = 16) : -1 ≤ digR c base ∧ digR c base < base := by
  unfold digR
  rcases hb with rfl | rfl <;> repeat' split
  all_goals omega

/-- the digits from the beginning on: their value (at most 0x110000), how many -/
def run (base : Int) : List UInt8 → Int → Nat → Int × Nat
  | [], n, k => (n, k)
  | c :: t, n, k => if 0 ≤ digR c base then run base t (min (n * base + digR c base) 1114112) (k + 1) else (n, k)
theorem run_range {base : Int} (hb : base = 10 ∨ base = 16) : ∀ (l : List UInt8) (n : Int) (k : Nat), 0 ≤ n → n ≤ 1114112 → 0 ≤ (run base l n k).1 ∧ (run base l n k).1 ≤ 1114112 ∧ k ≤ (run base l n k).2 ∧ (run base l n k).2 ≤ k + l.length
  | [], n, k, h0, h1 => ⟨h0, h1, Nat.le_refl _, Nat.le_refl _⟩
  | c :: t, n, k, h0, h1 => by
    unfold run
    split
    · rename_i hc
      have hm : 0 ≤ n * base := by rcases hb with rfl | rfl <;> omega
      have := run_range hb t (min (n * base + digR c base) 1114112) (k + 1) (by omega) (by omega)
      simp only [List.length_cons]
      omega
    · simp only [List.length_cons]
      omega

/-- the character with a number, as the program makes it -/
def numE (n : Int) : List UInt8 := (Utf8.encode (if n < 1 ∨ 1114111 < n then 65533 else n)).data.toList
/-- as the reference makes it -/
def numR (n : Int) : List UInt8 :=
  if n < 1 ∨ 1114111 < n ∨ (55296 ≤ n ∧ n ≤ 57343) then [239, 191, 189]
  else if n < 128 then [UInt8.ofNat n.toNat]
  else if n < 2048 then [UInt8.ofNat (192 + n.toNat / 64), UInt8.ofNat (128 + n.toNat % 64)]
  else if n < 65536 then [UInt8.ofNat (224 + n.toNat / 4096), UInt8.ofNat (128 + n.toNat / 64 % 64), UInt8.ofNat (128 + n.toNat % 64)]
  else [UInt8.ofNat (240 + n.toNat / 262144), UInt8.ofNat (128 + n.toNat / 4096 % 64), UInt8.ofNat (128 + n.toNat / 64 % 64), UInt8.ofNat (128 + n.toNat % 64)]
theorem num_eq (n : Int) : numE n = numR n := by
  unfold numE numR
  by_cases h : n < 1 ∨ 1114111 < n
  · rw [if_pos h, if_pos (show n < 1 ∨ 1114111 < n ∨ (55296 ≤ n ∧ n ≤ 57343) by omega)]; decide
  · rw [if_neg h]
    by_cases hs : 55296 ≤ n ∧ n ≤ 57343
    · have hv : Utf8.valid n = false := by
        simp only [Utf8.valid, Bool.or_eq_false_iff, Bool.and_eq_false_iff, decide_eq_false_iff_not]; omega
      rw [if_pos (show n < 1 ∨ 1114111 < n ∨ (55296 ≤ n ∧ n ≤ 57343) by omega)]
      unfold Utf8.encode
      rw [hv]; simp only [Bool.false_eq_true, if_false]; decide
    · have hv : Utf8.valid n = true := by
        simp only [Utf8.valid, Bool.or_eq_true, Bool.and_eq_true, decide_eq_true_eq]; omega
      rw [if_neg (show ¬ (n < 1 ∨ 1114111 < n ∨ (55296 ≤ n ∧ n ≤ 57343)) by omega)]
      unfold Utf8.encode
      rw [hv]
      simp only [if_true]
      by_cases h1 : n < 128
      · rw [if_pos (show n.toNat < 0x80 by omega), if_pos h1]
      · rw [if_neg (show ¬ n.toNat < 0x80 by omega), if_neg h1]
        by_cases h2 : n < 2048
        · rw [if_pos (show n.toNat < 0x800 by omega), if_pos h2]
        · rw [if_neg (show ¬ n.toNat < 0x800 by omega), if_neg h2]
          by_cases h3 : n < 65536
          · rw [if_pos (show n.toNat < 0x10000 by omega), if_pos h3]
          · rw [if_neg (show ¬ n.toNat < 0x10000 by omega), if_neg h3]

/-- What the program makes of a number is valid UTF-8. -/
theorem toNat_of (k : Nat) (h : k < 256) : (UInt8.ofNat k).toNat = k := by simp [UInt8.toNat_ofNat']; omega
theorem valid_one (l : List UInt8) (hne : l ≠ []) (h2 : 2 ≤ l.length) (h : (Lib.decodeL l).2 = l.length) : Lib.validD l = true := by
  rw [Lib.validD_step l hne, h, if_neg (by omega), List.drop_length]; rfl
set_option maxHeartbeats 2000000 in
theorem numR_valid (n : Int) : Lib.validD (numR n) = true := by
  unfold numR
  split
  · decide
  · split
    · rw [Lib.validD_cons _ _ (by rw [toNat_of _ (by omega)]; omega)]; rfl
    · split
      · refine valid_one _ (by simp) (by simp) ?_
        rw [Lib.decodeL_N]
        simp only [List.length_cons, List.length_nil, List.getD_cons_zero, List.getD_cons_succ, List.getD_nil]
        rw [toNat_of _ (by omega), toNat_of _ (by omega)]
        unfold Lib.decodeN
        rw [if_neg (by omega), if_pos (by omega), if_pos (by omega)]
      · split
        · refine valid_one _ (by simp) (by simp) ?_
          rw [Lib.decodeL_N]
          simp only [List.length_cons, List.length_nil, List.getD_cons_zero, List.getD_cons_succ, List.getD_nil]
          rw [toNat_of _ (by omega), toNat_of _ (by omega), toNat_of _ (by omega)]
          unfold Lib.decodeN
          rw [if_neg (by omega), if_neg (by omega), if_pos (by omega), if_pos (by omega)]
        · refine valid_one _ (by simp) (by simp) ?_
          rw [Lib.decodeL_N]
          simp only [List.length_cons, List.length_nil, List.getD_cons_zero, List.getD_cons_succ, List.getD_nil]
          rw [toNat_of _ (by omega), toNat_of _ (by omega), toNat_of _ (by omega), toNat_of _ (by omega)]
          unfold Lib.decodeN
          rw [if_neg (by omega), if_neg (by omega), if_neg (by omega), if_pos (by omega), if_pos (by omega)]
end Go.Proofs.YtefijebbndnnjaaDoor.W
