/- References by a number: numeric, and number of the reference. -/
import Derived.Test.YtefijebbndnnjaaDoorDig
import Derived.Lib.Hide
set_option linter.unusedVariables false
namespace Go.Proofs.YtefijebbndnnjaaDoor.W
open Go.RowKit

/-- a reference by a number: the bytes up to the first digit are fr -/
def numericP (l : List UInt8) (fr : Nat) (base : Int) : List UInt8 × Nat :=
  if (run base (l.drop fr) 0 fr).2 = fr then ([], 0) else (numR (run base (l.drop fr) 0 fr).1, if l[(run base (l.drop fr) 0 fr).2]? = some 59 then (run base (l.drop fr) 0 fr).2 + 1 else (run base (l.drop fr) 0 fr).2)

theorem drop_at (s : ByteArray) (k : Nat) (h : k < s.size) : s.data.toList.drop k = s[k] :: s.data.toList.drop (k + 1) := by
  have h' : k < s.data.toList.length := by rw [← Lib.size_eq]; exact h
  rw [List.drop_eq_getElem_cons h']
  rfl
theorem run_step {base : Int} {l t : List UInt8} {c : UInt8} (n : Int) (k : Nat) (h : l = c :: t) (hd : 0 ≤ digR c base) : run base l n k = run base t (min (n * base + digR c base) 1114112) (k + 1) := by
  rw [h]; exact if_pos hd
theorem run_stop {base : Int} {l t : List UInt8} {c : UInt8} (n : Int) (k : Nat) (h : l = c :: t) (hd : ¬ 0 ≤ digR c base) : run base l n k = (n, k) := by
  rw [h]; exact if_neg hd
theorem numericP_of {l : List UInt8} {fr : Nat} {base n : Int} {k : Nat} (h : run base (l.drop fr) 0 fr = (n, k)) : numericP l fr base = if k = fr then ([], 0) else (numR n, if l[k]? = some 59 then k + 1 else k) := by
  unfold numericP; rw [h]
theorem getElem?_at (s : ByteArray) (k : Nat) (h : k < s.size) : s.data.toList[k]? = some s[k] := by
  have h' : k < s.data.toList.length := by rw [← Lib.size_eq]; exact h
  rw [List.getElem?_eq_getElem h']
  rfl
def NmR (w : World) (l : List UInt8) (fr : Nat) (base : Int) (nv iv : Value) (wr : World) : Prop :=
  ∃ (k : Nat) (n : Int), fr ≤ k ∧ k ≤ l.length ∧ 0 ≤ n ∧ n ≤ 1114112 ∧ iv = .int .i64 (k : Int) ∧ nv = .int .i64 n ∧ run base (l.drop k) n k = run base (l.drop fr) 0 fr ∧ Below w.heap.size w wr

set_option maxRecDepth 100000 in
set_option maxHeartbeats 4000000 in
theorem numeric_any (s : ByteArray) (fr : Nat) (base : Int) (hb : base = 10 ∨ base = 16) (w : World) (hs : s.size ≤ 1000000) (hfr : fr ≤ s.size) (hL : Laid w) :
    Calls Tryd.prog 25 #[.string s, .int .i64 fr, .int .i64 base] w fun e w' => e = .returned (.tuple #[.string ⟨(numericP s.data.toList fr base).1.toArray⟩, .int .i64 (numericP s.data.toList fr base).2]) ∧ Below w.heap.size w w' := by
  have HL := Lib.hid hL
  clear hL
  go_enter Tryd.func25, Tryd.ntmps25
  go_wp2_with fail
  go_loopw [8, 9] (fun nv iv wr => NmR w s.data.toList fr base nv iv wr) (fun _ iv _ => s.size - (intOf iv).toNat)
  case atStart => exact ⟨fr, 0, Nat.le_refl _, by rw [← Lib.size_eq]; exact hfr, by omega, by omega, rfl, rfl, rfl, Below.refl _ _⟩
  case round =>
    obtain ⟨k, n, hk0, hk, hn0, hn1, rfl, rfl, hrun, hB⟩ := hrel
    rw [← Lib.size_eq] at hk
    have HR := Lib.hid hrun
    clear hrun
    by_cases hlt : k < s.size
    · have hdr := drop_at s k hlt
      have hr := digR_lt s[k] hb
      have hm : 0 ≤ n * base ∧ n * base ≤ 17825792 := by rcases hb with rfl | rfl <;> omega
      by_cases hd : 0 ≤ digR s[k] base
      · have HS := Lib.hid (run_step n k hdr hd)
        have HC := Lib.hid (fun wx => digit_any s[k] base hb wx)
        have hr2 : digR s[k] base < 16 := by rcases hb with rfl | rfl <;> omega
        clear hdr hr
        generalize digR s[k] base = D at HS HC hd hr2
        go_wp2_with fail
        refine (HC.out _).mono ?_
        rintro e w2 ⟨rfl, rfl⟩
        go_wp2_with fail
        refine (HC.out _).mono ?_
        rintro e w2 ⟨rfl, rfl⟩
        go_wp2_with fail
        refine ⟨⟨k + 1, _, by omega, by rw [← Lib.size_eq]; omega, by omega, by omega, by go_num, rfl, HS.out.symm.trans HR.out, hB⟩, by simp [intOf]; omega⟩
      · have HP := Lib.hid (numericP_of (HR.out.symm.trans (run_stop n k hdr hd)))
        have HC := Lib.hid (fun wx => digit_any s[k] base hb wx)
        have HG := Lib.hid (getElem?_at s k hlt)
        clear hdr hr HR
        generalize digR s[k] base = D at HC hd
        by_cases hkf : k = fr
        · have HQ := Lib.hid (HP.out.trans (if_pos hkf))
          clear HP
          subst hkf
          go_wp2_with fail
          refine (HC.out _).mono ?_
          rintro e w2 ⟨rfl, rfl⟩
          go_wp2_with fail
          go_ret2
          exact ⟨by rw [HQ.out]; rfl, hB⟩
        · have hkf' : ¬ ((k : Int) = (fr : Int)) := by omega
          have HQ := Lib.hid (HP.out.trans (if_neg hkf))
          clear HP hkf
          by_cases h59 : s[k] = 59
          · have E59 := Lib.hid (show (s[k].toNat : Int) = 59 by rw [h59]; rfl)
            rw [h59] at HG
            clear h59
            go_wp2_with fail
            refine (HC.out _).mono ?_
            rintro e w2 ⟨rfl, rfl⟩
            have e59 := E59.out
            go_wp2_with fail
            refine (number_any n _ ⟨by omega, by omega⟩ (HL.out.below hB)).mono ?_
            rintro e w3 ⟨rfl, hb3⟩
            go_wp2_with fail
            go_ret2
            refine ⟨?_, hB.trans (hb3.mono hB.size)⟩
            rw [HQ.out, if_pos HG.out, num_eq]
            rfl
          · have e59 : ¬ ((s[k].toNat : Int) = 59) := fun h => h59 (by
              have : s[k].toNat = 59 := by omega
              exact UInt8.toNat_inj.1 (by rw [this]; rfl))
            have HN := Lib.hid (show ¬ (s.data.toList[k]? = some 59) by rw [HG.out]; exact fun h => h59 (Option.some.inj h))
            go_wp2_with fail
            refine (HC.out _).mono ?_
            rintro e w2 ⟨rfl, rfl⟩
            go_wp2_with fail
            refine (number_any n _ ⟨by omega, by omega⟩ (HL.out.below hB)).mono ?_
            rintro e w3 ⟨rfl, hb3⟩
            go_wp2_with fail
            go_ret2
            refine ⟨?_, hB.trans (hb3.mono hB.size)⟩
            rw [HQ.out, if_neg HN.out, num_eq]
            rfl
    · have hke : k = s.size := by omega
      have hnil : s.data.toList.drop k = [] := List.drop_eq_nil_of_le (by rw [← Lib.size_eq]; omega)
      have HP := Lib.hid (numericP_of (HR.out.symm.trans (by rw [hnil]; rfl : _ = (n, k))))
      have HN := Lib.hid (show ¬ (s.data.toList[k]? = some 59) by rw [List.getElem?_eq_none (by rw [← Lib.size_eq]; omega)]; exact fun h => by cases h)
      clear hnil HR
      by_cases hkf : k = fr
      · have HQ := Lib.hid (HP.out.trans (if_pos hkf))
        clear HP
        subst hkf
        go_wp2_with fail
        go_ret2
        exact ⟨by rw [HQ.out]; rfl, hB⟩
      · have hkf' : ¬ ((k : Int) = (fr : Int)) := by omega
        have HQ := Lib.hid (HP.out.trans (if_neg hkf))
        clear HP hkf
        go_wp2_with fail
        refine (number_any n _ ⟨by omega, by omega⟩ (HL.out.below hB)).mono ?_
        rintro e w3 ⟨rfl, hb3⟩
        go_wp2_with fail
        go_ret2
        refine ⟨?_, hB.trans (hb3.mono hB.size)⟩
        rw [HQ.out, if_neg HN.out, num_eq, hke]
        rfl
end Go.Proofs.YtefijebbndnnjaaDoor.W
