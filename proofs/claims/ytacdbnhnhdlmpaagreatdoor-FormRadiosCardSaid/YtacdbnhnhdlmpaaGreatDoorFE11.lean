/- Texts joined: Rsz. -/
import Derived.Test.YtacdbnhnhdlmpaaGreatDoorFE2
import Derived.Test.YtacdbnhnhdlmpaaGreatDoorFE10
import Derived.LoopTactic
set_option maxRecDepth 100000
set_option maxHeartbeats 40000000
set_option linter.unusedVariables false
set_option linter.unusedSimpArgs false
section
namespace Go.Proofs.YtacdbnhnhdlmpaaGreatDoor.W
open Go.RowKit
def bz (s : ByteArray) (i : Nat) : Nat := (s.get! i).toNat
theorem bz_lt (s : ByteArray) (i : Nat) : bz s i < 256 := (s.get! i).toNat_lt
theorem bz_at (s : ByteArray) (i : Nat) (h : i < s.size) : bz s i = (s[i]'h).toNat := by
  unfold bz
  have := get_at s i h
  rw [Nat.add_zero] at this
  rw [this]
def inB (s : ByteArray) (i lo hi : Nat) : Bool := inN s.size i (bz s i) lo hi
set_option maxRecDepth 100000 in
set_option maxHeartbeats 2000000 in
theorem in_any (s : ByteArray) (i lo hi : Nat) (w : World) (hs : s.size ≤ 1000000000) (hi1 : i ≤ 1000000010) :
    Calls Tryz.prog 146 #[.string s, .int .i64 (i : Int), .int .u8 (lo : Int), .int .u8 (hi : Int)] w fun e w' => e = .returned (.bool (inB s i lo hi)) ∧ w' = w := by
  by_cases h : i < s.size
  · have e0 := bz_at s i h
    by_cases h1 : lo ≤ (s[i]'h).toNat
    · by_cases h2 : (s[i]'h).toNat ≤ hi
      · have e : inB s i lo hi = true := by unfold inB inN; rw [e0]; simp; omega
        have h1' : (lo : Int) ≤ ((s[i]'h).toNat : Int) := by omega
        have h2' : ((s[i]'h).toNat : Int) ≤ (hi : Int) := by omega
        rw [e]
        clear e e0
        go_enter Tryz.func146, Tryz.ntmps146
        go_wp2
        go_ret
        all_goals (first | exact ⟨rfl, rfl⟩ | (refine ⟨?_, rfl⟩; simp; omega))
      · have e : inB s i lo hi = false := by unfold inB inN; rw [e0]; simp; omega
        have h1' : (lo : Int) ≤ ((s[i]'h).toNat : Int) := by omega
        have h2' : ¬ ((s[i]'h).toNat : Int) ≤ (hi : Int) := by omega
        rw [e]
        clear e e0
        go_enter Tryz.func146, Tryz.ntmps146
        go_wp2
        go_ret
        all_goals (first | exact ⟨rfl, rfl⟩ | (refine ⟨?_, rfl⟩; simp; omega))
    · have e : inB s i lo hi = false := by unfold inB inN; rw [e0]; simp; omega
      have h1' : ¬ (lo : Int) ≤ ((s[i]'h).toNat : Int) := by omega
      rw [e]
      clear e e0
      go_enter Tryz.func146, Tryz.ntmps146
      go_wp2
      go_ret
      all_goals (first | exact ⟨rfl, rfl⟩ | (refine ⟨?_, rfl⟩; simp; omega))
  · have e : inB s i lo hi = false := by unfold inB inN; simp; omega
    rw [e]
    clear e
    go_enter Tryz.func146, Tryz.ntmps146
    go_wp2
    go_ret
    exact ⟨rfl, rfl⟩
theorem in_is (s : ByteArray) (i lo hi : Nat) (b : Bool) (hb : inB s i lo hi = b) (w : World) (hs : s.size ≤ 1000000000) (hi1 : i ≤ 1000000010) :
    Calls Tryz.prog 146 #[.string s, .int .i64 (i : Int), .int .u8 (lo : Int), .int .u8 (hi : Int)] w fun e w' => e = .returned (.bool b) ∧ w' = w := hb ▸ in_any s i lo hi w hs hi1
def tailB (s : ByteArray) (i : Nat) : Nat → Bool
  | 0 => true
  | n + 1 => tailB s i n && inB s (i + n) 128 191
set_option maxRecDepth 100000 in
set_option maxHeartbeats 2000000 in
theorem tail_any (s : ByteArray) (i n : Nat) (w : World) (hs : s.size ≤ 1000000000) (hi1 : i ≤ 1000000005) (hn : n ≤ 3) :
    Calls Tryz.prog 147 #[.string s, .int .i64 (i : Int), .int .i64 (n : Int)] w fun e w' => e = .returned (.bool (tailB s i n)) ∧ w' = w := by
  have HI := Lib.hid (fun k b hb wx hk => in_is s (i + k) 128 191 b hb wx hs (show i + k ≤ 1000000010 by have : k ≤ 3 := hk; omega))
  have mono : ∀ k, k ≤ n → tailB s i k = false → tailB s i n = false := by
    intro k hk h
    obtain ⟨m, rfl⟩ : ∃ m, n = k + m := ⟨n - k, by omega⟩
    clear hk hn
    induction m with
    | zero => exact h
    | succ m ih => rw [show k + (m + 1) = (k + m) + 1 by omega]; unfold tailB; rw [ih]; rfl
  have HM := Lib.hid mono
  clear mono
  go_enter Tryz.func147, Tryz.ntmps147
  go_wp2_with fail
  go_loopw [7] (fun iv wr => ∃ k : Nat, k ≤ n ∧ iv = .int .i64 (k : Int) ∧ tailB s i k = true ∧ wr = w) (fun iv _ => n - intN iv)
  case atStart => exact ⟨0, by omega, rfl, rfl, rfl⟩
  case round =>
    obtain ⟨k, hk, rfl, ht, rfl⟩ := hrel
    by_cases hlt : k < n
    · have HT := Lib.hid ht
      clear ht
      have hk3 : k ≤ 3 := by omega
      cases hb : inB s (i + k) 128 191
      · have HC := Lib.hid (fun wx => HI.out k false hb wx hk3)
        have HB := Lib.hid hb
        clear hb
        go_wp2_with fail
        refine (HC.out _).mono ?_
        rintro e w1 ⟨rfl, rfl⟩
        go_wp2_with fail
        go_ret
        have : tailB s i (k + 1) = false := by unfold tailB; rw [HB.out]; simp
        rw [HM.out (k + 1) (by omega) this]
        exact ⟨rfl, rfl⟩
      · have HC := Lib.hid (fun wx => HI.out k true hb wx hk3)
        have HB := Lib.hid hb
        clear hb
        go_wp2_with fail
        refine (HC.out _).mono ?_
        rintro e w1 ⟨rfl, rfl⟩
        go_wp2_with fail
        exact ⟨⟨k + 1, by omega, by first | rfl | simp, by unfold tailB; rw [HT.out, HB.out]; rfl, by trivial⟩, by simp only [intN]; omega⟩
    · obtain rfl : k = n := by omega
      go_wp2_with fail
      go_ret
      rw [ht]
      exact ⟨rfl, rfl⟩
def secB (s : ByteArray) (i : Nat) : Bool := if bz s i = 224 then inB s (i + 1) 160 191 else if bz s i = 237 then inB s (i + 1) 128 159 else if bz s i = 240 then inB s (i + 1) 144 191 else if bz s i = 244 then inB s (i + 1) 128 143 else inB s (i + 1) 128 191
set_option maxRecDepth 100000 in
set_option maxHeartbeats 2000000 in
theorem second_any (s : ByteArray) (i : Nat) (w : World) (hs : s.size ≤ 1000000000) (h : i < s.size) :
    Calls Tryz.prog 148 #[.string s, .int .i64 (i : Int)] w fun e w' => e = .returned (.bool (secB s i)) ∧ w' = w := by
  have HI := Lib.hid (fun lo hi wx => in_any s (i + 1) lo hi wx hs (by omega))
  have e0 := bz_at s i h
  have hlt := bz_lt s i
  unfold secB
  by_cases q0 : bz s i = 224
  · rw [if_pos q0]
    rw [q0] at e0
    have e1 : (((s[i]'h).toNat : Nat) : Int) = 224 := by omega
    clear e0 q0 hlt
    go_enter Tryz.func148, Tryz.ntmps148
    go_wp2_with fail
    refine (HI.out 160 191 _).mono ?_
    rintro e w1 ⟨rfl, rfl⟩
    go_wp2_with fail
    go_ret
    exact ⟨rfl, rfl⟩
  by_cases q1 : bz s i = 237
  · rw [if_neg q0, if_pos q1]
    rw [q1] at e0
    have e1 : (((s[i]'h).toNat : Nat) : Int) = 237 := by omega
    clear e0 q0 q1 hlt
    go_enter Tryz.func148, Tryz.ntmps148
    go_wp2_with fail
    refine (HI.out 128 159 _).mono ?_
    rintro e w1 ⟨rfl, rfl⟩
    go_wp2_with fail
    go_ret
    exact ⟨rfl, rfl⟩
  by_cases q2 : bz s i = 240
  · rw [if_neg q0, if_neg q1, if_pos q2]
    rw [q2] at e0
    have e1 : (((s[i]'h).toNat : Nat) : Int) = 240 := by omega
    clear e0 q0 q1 q2 hlt
    go_enter Tryz.func148, Tryz.ntmps148
    go_wp2_with fail
    refine (HI.out 144 191 _).mono ?_
    rintro e w1 ⟨rfl, rfl⟩
    go_wp2_with fail
    go_ret
    exact ⟨rfl, rfl⟩
  by_cases q3 : bz s i = 244
  · rw [if_neg q0, if_neg q1, if_neg q2, if_pos q3]
    rw [q3] at e0
    have e1 : (((s[i]'h).toNat : Nat) : Int) = 244 := by omega
    clear e0 q0 q1 q2 q3 hlt
    go_enter Tryz.func148, Tryz.ntmps148
    go_wp2_with fail
    refine (HI.out 128 143 _).mono ?_
    rintro e w1 ⟨rfl, rfl⟩
    go_wp2_with fail
    go_ret
    exact ⟨rfl, rfl⟩
  · rw [if_neg q0, if_neg q1, if_neg q2, if_neg q3]
    have e1 : ((((s[i]'h).toNat : Nat) : Int) == 224) = false := by simp; omega
    have e2 : ((((s[i]'h).toNat : Nat) : Int) == 237) = false := by simp; omega
    have e3 : ((((s[i]'h).toNat : Nat) : Int) == 240) = false := by simp; omega
    have e4 : ((((s[i]'h).toNat : Nat) : Int) == 244) = false := by simp; omega
    clear e0 q0 q1 q2 q3 hlt
    go_enter Tryz.func148, Tryz.ntmps148
    go_wp2_with fail
    refine (HI.out 128 191 _).mono ?_
    rintro e w1 ⟨rfl, rfl⟩
    go_wp2_with fail
    go_ret
    exact ⟨rfl, rfl⟩
def szB (s : ByteArray) (i : Nat) : Nat :=
  if inB s i 0 127 = true then 1
  else if (inB s i 194 223 && tailB s (i + 1) 1) = true then 2
  else if (inB s i 224 239 && secB s i && tailB s (i + 2) 1) = true then 3
  else if (inB s i 240 244 && secB s i && tailB s (i + 2) 2) = true then 4
  else 0
theorem tail_is (s : ByteArray) (i n : Nat) (b : Bool) (hb : tailB s i n = b) (w : World) (hs : s.size ≤ 1000000000) (hi1 : i ≤ 1000000005) (hn : n ≤ 3) :
    Calls Tryz.prog 147 #[.string s, .int .i64 (i : Int), .int .i64 (n : Int)] w fun e w' => e = .returned (.bool b) ∧ w' = w := hb ▸ tail_any s i n w hs hi1 hn
theorem second_is (s : ByteArray) (i : Nat) (b : Bool) (hb : secB s i = b) (w : World) (hs : s.size ≤ 1000000000) (h : i < s.size) :
    Calls Tryz.prog 148 #[.string s, .int .i64 (i : Int)] w fun e w' => e = .returned (.bool b) ∧ w' = w := hb ▸ second_any s i w hs h
set_option maxRecDepth 100000 in
set_option maxHeartbeats 4000000 in
theorem size_B (s : ByteArray) (i : Nat) (w : World) (hs : s.size ≤ 1000000000) (hi : i ≤ s.size) :
    Calls Tryz.prog 120 #[.string s, .int .i64 (i : Int)] w fun e w' => e = .returned (.int .i64 ((szB s i : Nat) : Int)) ∧ w' = w := by
  have hlt := bz_lt s i
  by_cases q : i < s.size
  · by_cases c0 : bz s i ≤ 127
    · have hA : inB s i 0 127 = true := by unfold inB inN; simp; omega
      have hlt := q
      clear c0
      have H0 := Lib.hid (fun wx => in_is s i 0 127 true hA wx hs (by omega))
      have es : szB s i = 1 := by unfold szB; simp [hA]
      rw [es]
      clear es hA
      go_enter Tryz.func120, Tryz.ntmps120
      go_wp2_with fail
      refine (H0.out _).mono ?_
      rintro e w1 ⟨rfl, rfl⟩
      go_wp2_with fail
      go_ret
      exact ⟨rfl, rfl⟩
    by_cases c1 : bz s i < 194 ∨ 245 ≤ bz s i
    · have hA : inB s i 0 127 = false := by unfold inB inN; simp; omega
      have hB : inB s i 194 223 = false := by unfold inB inN; simp; omega
      have hC : inB s i 224 239 = false := by unfold inB inN; simp; omega
      have hD : inB s i 240 244 = false := by unfold inB inN; simp; omega
      have hlt := q
      clear c0 c1
      have H0 := Lib.hid (fun wx => in_is s i 0 127 false hA wx hs (by omega))
      have H1 := Lib.hid (fun wx => in_is s i 194 223 false hB wx hs (by omega))
      have H2 := Lib.hid (fun wx => in_is s i 224 239 false hC wx hs (by omega))
      have H3 := Lib.hid (fun wx => in_is s i 240 244 false hD wx hs (by omega))
      have es : szB s i = 0 := by unfold szB; simp [hA, hB, hC, hD]
      rw [es]
      clear es hA hB hC hD
      go_enter Tryz.func120, Tryz.ntmps120
      go_wp2_with fail
      refine (H0.out _).mono ?_
      rintro e w1 ⟨rfl, rfl⟩
      go_wp2_with fail
      refine (H1.out _).mono ?_
      rintro e w1 ⟨rfl, rfl⟩
      go_wp2_with fail
      refine (H2.out _).mono ?_
      rintro e w1 ⟨rfl, rfl⟩
      go_wp2_with fail
      refine (H3.out _).mono ?_
      rintro e w1 ⟨rfl, rfl⟩
      go_wp2_with fail
      go_ret
      exact ⟨rfl, rfl⟩
    by_cases c2 : bz s i ≤ 223
    · have hA : inB s i 0 127 = false := by unfold inB inN; simp; omega
      have hB : inB s i 194 223 = true := by unfold inB inN; simp; omega
      have hC : inB s i 224 239 = false := by unfold inB inN; simp; omega
      have hD : inB s i 240 244 = false := by unfold inB inN; simp; omega
      have hlt := q
      clear c0 c1 c2
      cases hT : tailB s (i + 1) 1
      · have H0 := Lib.hid (fun wx => in_is s i 0 127 false hA wx hs (by omega))
        have H1 := Lib.hid (fun wx => in_is s i 194 223 true hB wx hs (by omega))
        have H2 := Lib.hid (fun wx => tail_is s (i + 1) 1 false hT wx hs (by omega) (by omega))
        have H3 := Lib.hid (fun wx => in_is s i 224 239 false hC wx hs (by omega))
        have H4 := Lib.hid (fun wx => in_is s i 240 244 false hD wx hs (by omega))
        have es : szB s i = 0 := by unfold szB; simp [hA, hB, hC, hD, hT]
        rw [es]
        clear es hA hB hC hD hT
        go_enter Tryz.func120, Tryz.ntmps120
        go_wp2_with fail
        refine (H0.out _).mono ?_
        rintro e w1 ⟨rfl, rfl⟩
        go_wp2_with fail
        refine (H1.out _).mono ?_
        rintro e w1 ⟨rfl, rfl⟩
        go_wp2_with fail
        refine (H2.out _).mono ?_
        rintro e w1 ⟨rfl, rfl⟩
        go_wp2_with fail
        refine (H3.out _).mono ?_
        rintro e w1 ⟨rfl, rfl⟩
        go_wp2_with fail
        refine (H4.out _).mono ?_
        rintro e w1 ⟨rfl, rfl⟩
        go_wp2_with fail
        go_ret
        exact ⟨rfl, rfl⟩
      · have H0 := Lib.hid (fun wx => in_is s i 0 127 false hA wx hs (by omega))
        have H1 := Lib.hid (fun wx => in_is s i 194 223 true hB wx hs (by omega))
        have H2 := Lib.hid (fun wx => tail_is s (i + 1) 1 true hT wx hs (by omega) (by omega))
        have es : szB s i = 2 := by unfold szB; simp [hA, hB, hC, hD, hT]
        rw [es]
        clear es hA hB hC hD hT
        go_enter Tryz.func120, Tryz.ntmps120
        go_wp2_with fail
        refine (H0.out _).mono ?_
        rintro e w1 ⟨rfl, rfl⟩
        go_wp2_with fail
        refine (H1.out _).mono ?_
        rintro e w1 ⟨rfl, rfl⟩
        go_wp2_with fail
        refine (H2.out _).mono ?_
        rintro e w1 ⟨rfl, rfl⟩
        go_wp2_with fail
        go_ret
        exact ⟨rfl, rfl⟩
    by_cases c3 : bz s i ≤ 239
    · have hA : inB s i 0 127 = false := by unfold inB inN; simp; omega
      have hB : inB s i 194 223 = false := by unfold inB inN; simp; omega
      have hC : inB s i 224 239 = true := by unfold inB inN; simp; omega
      have hD : inB s i 240 244 = false := by unfold inB inN; simp; omega
      have hlt := q
      clear c0 c1 c2 c3
      cases hS : secB s i
      · have H0 := Lib.hid (fun wx => in_is s i 0 127 false hA wx hs (by omega))
        have H1 := Lib.hid (fun wx => in_is s i 194 223 false hB wx hs (by omega))
        have H2 := Lib.hid (fun wx => in_is s i 224 239 true hC wx hs (by omega))
        have H3 := Lib.hid (fun wx => second_is s i false hS wx hs hlt)
        have H4 := Lib.hid (fun wx => in_is s i 240 244 false hD wx hs (by omega))
        have es : szB s i = 0 := by unfold szB; simp [hA, hB, hC, hD, hS]
        rw [es]
        clear es hA hB hC hD hS
        go_enter Tryz.func120, Tryz.ntmps120
        go_wp2_with fail
        refine (H0.out _).mono ?_
        rintro e w1 ⟨rfl, rfl⟩
        go_wp2_with fail
        refine (H1.out _).mono ?_
        rintro e w1 ⟨rfl, rfl⟩
        go_wp2_with fail
        refine (H2.out _).mono ?_
        rintro e w1 ⟨rfl, rfl⟩
        go_wp2_with fail
        refine (H3.out _).mono ?_
        rintro e w1 ⟨rfl, rfl⟩
        go_wp2_with fail
        refine (H4.out _).mono ?_
        rintro e w1 ⟨rfl, rfl⟩
        go_wp2_with fail
        go_ret
        exact ⟨rfl, rfl⟩
      · cases hT : tailB s (i + 2) 1
        · have H0 := Lib.hid (fun wx => in_is s i 0 127 false hA wx hs (by omega))
          have H1 := Lib.hid (fun wx => in_is s i 194 223 false hB wx hs (by omega))
          have H2 := Lib.hid (fun wx => in_is s i 224 239 true hC wx hs (by omega))
          have H3 := Lib.hid (fun wx => second_is s i true hS wx hs hlt)
          have H4 := Lib.hid (fun wx => tail_is s (i + 2) 1 false hT wx hs (by omega) (by omega))
          have H5 := Lib.hid (fun wx => in_is s i 240 244 false hD wx hs (by omega))
          have es : szB s i = 0 := by unfold szB; simp [hA, hB, hC, hD, hS, hT]
          rw [es]
          clear es hA hB hC hD hS hT
          go_enter Tryz.func120, Tryz.ntmps120
          go_wp2_with fail
          refine (H0.out _).mono ?_
          rintro e w1 ⟨rfl, rfl⟩
          go_wp2_with fail
          refine (H1.out _).mono ?_
          rintro e w1 ⟨rfl, rfl⟩
          go_wp2_with fail
          refine (H2.out _).mono ?_
          rintro e w1 ⟨rfl, rfl⟩
          go_wp2_with fail
          refine (H3.out _).mono ?_
          rintro e w1 ⟨rfl, rfl⟩
          go_wp2_with fail
          refine (H4.out _).mono ?_
          rintro e w1 ⟨rfl, rfl⟩
          go_wp2_with fail
          refine (H5.out _).mono ?_
          rintro e w1 ⟨rfl, rfl⟩
          go_wp2_with fail
          go_ret
          exact ⟨rfl, rfl⟩
        · have H0 := Lib.hid (fun wx => in_is s i 0 127 false hA wx hs (by omega))
          have H1 := Lib.hid (fun wx => in_is s i 194 223 false hB wx hs (by omega))
          have H2 := Lib.hid (fun wx => in_is s i 224 239 true hC wx hs (by omega))
          have H3 := Lib.hid (fun wx => second_is s i true hS wx hs hlt)
          have H4 := Lib.hid (fun wx => tail_is s (i + 2) 1 true hT wx hs (by omega) (by omega))
          have es : szB s i = 3 := by unfold szB; simp [hA, hB, hC, hD, hS, hT]
          rw [es]
          clear es hA hB hC hD hS hT
          go_enter Tryz.func120, Tryz.ntmps120
          go_wp2_with fail
          refine (H0.out _).mono ?_
          rintro e w1 ⟨rfl, rfl⟩
          go_wp2_with fail
          refine (H1.out _).mono ?_
          rintro e w1 ⟨rfl, rfl⟩
          go_wp2_with fail
          refine (H2.out _).mono ?_
          rintro e w1 ⟨rfl, rfl⟩
          go_wp2_with fail
          refine (H3.out _).mono ?_
          rintro e w1 ⟨rfl, rfl⟩
          go_wp2_with fail
          refine (H4.out _).mono ?_
          rintro e w1 ⟨rfl, rfl⟩
          go_wp2_with fail
          go_ret
          exact ⟨rfl, rfl⟩
    · have hA : inB s i 0 127 = false := by unfold inB inN; simp; omega
      have hB : inB s i 194 223 = false := by unfold inB inN; simp; omega
      have hC : inB s i 224 239 = false := by unfold inB inN; simp; omega
      have hD : inB s i 240 244 = true := by unfold inB inN; simp; omega
      have hlt := q
      clear c0 c1 c2 c3
      cases hS : secB s i
      · have H0 := Lib.hid (fun wx => in_is s i 0 127 false hA wx hs (by omega))
        have H1 := Lib.hid (fun wx => in_is s i 194 223 false hB wx hs (by omega))
        have H2 := Lib.hid (fun wx => in_is s i 224 239 false hC wx hs (by omega))
        have H3 := Lib.hid (fun wx => in_is s i 240 244 true hD wx hs (by omega))
        have H4 := Lib.hid (fun wx => second_is s i false hS wx hs hlt)
        have es : szB s i = 0 := by unfold szB; simp [hA, hB, hC, hD, hS]
        rw [es]
        clear es hA hB hC hD hS
        go_enter Tryz.func120, Tryz.ntmps120
        go_wp2_with fail
        refine (H0.out _).mono ?_
        rintro e w1 ⟨rfl, rfl⟩
        go_wp2_with fail
        refine (H1.out _).mono ?_
        rintro e w1 ⟨rfl, rfl⟩
        go_wp2_with fail
        refine (H2.out _).mono ?_
        rintro e w1 ⟨rfl, rfl⟩
        go_wp2_with fail
        refine (H3.out _).mono ?_
        rintro e w1 ⟨rfl, rfl⟩
        go_wp2_with fail
        refine (H4.out _).mono ?_
        rintro e w1 ⟨rfl, rfl⟩
        go_wp2_with fail
        go_ret
        exact ⟨rfl, rfl⟩
      · cases hT : tailB s (i + 2) 2
        · have H0 := Lib.hid (fun wx => in_is s i 0 127 false hA wx hs (by omega))
          have H1 := Lib.hid (fun wx => in_is s i 194 223 false hB wx hs (by omega))
          have H2 := Lib.hid (fun wx => in_is s i 224 239 false hC wx hs (by omega))
          have H3 := Lib.hid (fun wx => in_is s i 240 244 true hD wx hs (by omega))
          have H4 := Lib.hid (fun wx => second_is s i true hS wx hs hlt)
          have H5 := Lib.hid (fun wx => tail_is s (i + 2) 2 false hT wx hs (by omega) (by omega))
          have es : szB s i = 0 := by unfold szB; simp [hA, hB, hC, hD, hS, hT]
          rw [es]
          clear es hA hB hC hD hS hT
          go_enter Tryz.func120, Tryz.ntmps120
          go_wp2_with fail
          refine (H0.out _).mono ?_
          rintro e w1 ⟨rfl, rfl⟩
          go_wp2_with fail
          refine (H1.out _).mono ?_
          rintro e w1 ⟨rfl, rfl⟩
          go_wp2_with fail
          refine (H2.out _).mono ?_
          rintro e w1 ⟨rfl, rfl⟩
          go_wp2_with fail
          refine (H3.out _).mono ?_
          rintro e w1 ⟨rfl, rfl⟩
          go_wp2_with fail
          refine (H4.out _).mono ?_
          rintro e w1 ⟨rfl, rfl⟩
          go_wp2_with fail
          refine (H5.out _).mono ?_
          rintro e w1 ⟨rfl, rfl⟩
          go_wp2_with fail
          go_ret
          exact ⟨rfl, rfl⟩
        · have H0 := Lib.hid (fun wx => in_is s i 0 127 false hA wx hs (by omega))
          have H1 := Lib.hid (fun wx => in_is s i 194 223 false hB wx hs (by omega))
          have H2 := Lib.hid (fun wx => in_is s i 224 239 false hC wx hs (by omega))
          have H3 := Lib.hid (fun wx => in_is s i 240 244 true hD wx hs (by omega))
          have H4 := Lib.hid (fun wx => second_is s i true hS wx hs hlt)
          have H5 := Lib.hid (fun wx => tail_is s (i + 2) 2 true hT wx hs (by omega) (by omega))
          have es : szB s i = 4 := by unfold szB; simp [hA, hB, hC, hD, hS, hT]
          rw [es]
          clear es hA hB hC hD hS hT
          go_enter Tryz.func120, Tryz.ntmps120
          go_wp2_with fail
          refine (H0.out _).mono ?_
          rintro e w1 ⟨rfl, rfl⟩
          go_wp2_with fail
          refine (H1.out _).mono ?_
          rintro e w1 ⟨rfl, rfl⟩
          go_wp2_with fail
          refine (H2.out _).mono ?_
          rintro e w1 ⟨rfl, rfl⟩
          go_wp2_with fail
          refine (H3.out _).mono ?_
          rintro e w1 ⟨rfl, rfl⟩
          go_wp2_with fail
          refine (H4.out _).mono ?_
          rintro e w1 ⟨rfl, rfl⟩
          go_wp2_with fail
          refine (H5.out _).mono ?_
          rintro e w1 ⟨rfl, rfl⟩
          go_wp2_with fail
          go_ret
          exact ⟨rfl, rfl⟩
  · have hA : inB s i 0 127 = false := by unfold inB inN; simp; omega
    have hB : inB s i 194 223 = false := by unfold inB inN; simp; omega
    have hC : inB s i 224 239 = false := by unfold inB inN; simp; omega
    have hD : inB s i 240 244 = false := by unfold inB inN; simp; omega
    have H0 := Lib.hid (fun wx => in_is s i 0 127 false hA wx hs (by omega))
    have H1 := Lib.hid (fun wx => in_is s i 194 223 false hB wx hs (by omega))
    have H2 := Lib.hid (fun wx => in_is s i 224 239 false hC wx hs (by omega))
    have H3 := Lib.hid (fun wx => in_is s i 240 244 false hD wx hs (by omega))
    have es : szB s i = 0 := by unfold szB; simp [hA, hB, hC, hD]
    rw [es]
    clear es hA hB hC hD
    go_enter Tryz.func120, Tryz.ntmps120
    go_wp2_with fail
    refine (H0.out _).mono ?_
    rintro e w1 ⟨rfl, rfl⟩
    go_wp2_with fail
    refine (H1.out _).mono ?_
    rintro e w1 ⟨rfl, rfl⟩
    go_wp2_with fail
    refine (H2.out _).mono ?_
    rintro e w1 ⟨rfl, rfl⟩
    go_wp2_with fail
    refine (H3.out _).mono ?_
    rintro e w1 ⟨rfl, rfl⟩
    go_wp2_with fail
    go_ret
    exact ⟨rfl, rfl⟩
theorem szB_szL (s : ByteArray) (i : Nat) (hi : i ≤ s.size) : szB s i = szL (s.data.toList.drop i) := by
  by_cases h : i < s.size
  · have hsz : s.data.toList.length = s.size := by rw [Array.length_toList]; rfl
    have hne : s.data.toList.drop i ≠ [] := by
      intro e
      have := congrArg List.length e
      rw [List.length_drop, hsz] at this
      simp at this
      omega
    rw [szL_N _ hne, List.length_drop, hsz]
    have g : ∀ k, (((s.data.toList.drop i).getD k 0).toNat = bz s (i + k)) := by
      intro k
      unfold bz
      rw [List.getD_eq_getElem?_getD, List.getElem?_drop]
      by_cases hk : i + k < s.size
      · rw [List.getElem?_eq_getElem (by rw [hsz]; exact hk)]
        show (s.data.toList[i + k]'(by rw [hsz]; exact hk)).toNat = (s.get! (i + k)).toNat
        congr 1
        rw [Array.getElem_toList]
        show _ = s.data[i + k]!
        rw [getElem!_pos s.data (i + k) hk]
      · rw [List.getElem?_eq_none (by rw [hsz]; omega)]
        show _ = (s.data[i + k]!).toNat
        rw [getElem!_neg s.data (i + k) hk]
        rfl
    rw [g, g, g, g, Nat.add_zero]
    have e0 : ∀ k lo hi, inB s (i + k) lo hi = inN (s.size - i) k (bz s (i + k)) lo hi := by
      intro k lo hi
      unfold inB inN
      rw [show decide (i + k < s.size) = decide (k < s.size - i) from decide_eq_decide.2 (by omega)]
    have e00 : ∀ lo hi, inB s i lo hi = inN (s.size - i) 0 (bz s i) lo hi := fun lo hi => e0 0 lo hi
    have e1 : tailB s (i + 1) 1 = inN (s.size - i) 1 (bz s (i + 1)) 128 191 := by
      unfold tailB tailB
      rw [Bool.true_and, Nat.add_zero, e0]
    have e2 : tailB s (i + 2) 1 = inN (s.size - i) 2 (bz s (i + 2)) 128 191 := by
      unfold tailB tailB
      rw [Bool.true_and, Nat.add_zero, e0]
    have e3 : tailB s (i + 2) 2 = (inN (s.size - i) 2 (bz s (i + 2)) 128 191 && inN (s.size - i) 3 (bz s (i + 3)) 128 191) := by
      show (tailB s (i + 2) 1 && inB s (i + 2 + 1) 128 191) = _
      rw [e2, show i + 2 + 1 = i + 3 by omega, e0]
    have e4 : secB s i = secN (s.size - i) (bz s i) (bz s (i + 1)) := by
      unfold secB secN
      rw [e0, e0, e0, e0, e0]
    unfold szB szN
    rw [e00, e00, e00, e00, e1, e2, e3, e4]
  · obtain rfl : i = s.size := by omega
    have hA : inB s s.size 0 127 = false := by unfold inB inN; simp
    have hB : inB s s.size 194 223 = false := by unfold inB inN; simp
    have hC : inB s s.size 224 239 = false := by unfold inB inN; simp
    have hD : inB s s.size 240 244 = false := by unfold inB inN; simp
    have e : s.data.toList.drop s.size = [] := List.drop_eq_nil_of_le (by rw [Array.length_toList]; exact Nat.le_refl _)
    rw [e]
    unfold szB szL
    simp [hA, hB, hC, hD]
theorem size_any (s : ByteArray) (i : Nat) (w : World) (hs : s.size ≤ 1000000000) (hi : i ≤ s.size) :
    Calls Tryz.prog 120 #[.string s, .int .i64 (i : Int)] w fun e w' => e = .returned (.int .i64 ((szL (s.data.toList.drop i) : Nat) : Int)) ∧ w' = w := by
  rw [← szB_szL s i hi]
  exact size_B s i w hs hi
end Go.Proofs.YtacdbnhnhdlmpaaGreatDoor.W
end
