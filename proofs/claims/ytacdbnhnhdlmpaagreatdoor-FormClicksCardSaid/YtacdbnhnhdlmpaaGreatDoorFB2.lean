/- Texts joined: RszP Salt Tre AtT. -/
import Derived.Lib.ValidLaws
import Derived.Lib.RuneBytes
import Derived.Test.YtacdbnhnhdlmpaaGreatDoorRows
import Derived.Test.YtacdbnhnhdlmpaaGreatDoorFB1
set_option maxRecDepth 100000
set_option maxHeartbeats 40000000
set_option linter.unusedVariables false
set_option linter.unusedSimpArgs false
section
namespace Go.Proofs.YtacdbnhnhdlmpaaGreatDoor.W
open Go.RowKit
def szL (l : List UInt8) : Nat := if l = [] then 0 else if (Lib.decodeL l).1 = 65533 ∧ (Lib.decodeL l).2 = 1 then 0 else (Lib.decodeL l).2
def inN (n i b lo hi : Nat) : Bool := decide (i < n) && (decide (lo ≤ b) && decide (b ≤ hi))
def secN (n b0 b1 : Nat) : Bool := if b0 = 224 then inN n 1 b1 160 191 else if b0 = 237 then inN n 1 b1 128 159 else if b0 = 240 then inN n 1 b1 144 191 else if b0 = 244 then inN n 1 b1 128 143 else inN n 1 b1 128 191
def szN (n b0 b1 b2 b3 : Nat) : Nat :=
  if inN n 0 b0 0 127 = true then 1
  else if (inN n 0 b0 194 223 && inN n 1 b1 128 191) = true then 2
  else if (inN n 0 b0 224 239 && secN n b0 b1 && inN n 2 b2 128 191) = true then 3
  else if (inN n 0 b0 240 244 && secN n b0 b1 && (inN n 2 b2 128 191 && inN n 3 b3 128 191)) = true then 4
  else 0
theorem chk2 (n b1 b2 b3 lo hi : Nat) : Lib.checkN n b1 b2 b3 2 lo hi = if n < 2 ∨ b1 < lo ∨ hi < b1 then none else some 2 := by unfold Lib.checkN; rw [if_pos rfl]
theorem chk3 (n b1 b2 b3 lo hi : Nat) : Lib.checkN n b1 b2 b3 3 lo hi = if n < 3 ∨ b1 < lo ∨ hi < b1 ∨ b2 < 128 ∨ 191 < b2 then none else some 3 := by unfold Lib.checkN; rw [if_neg (by omega), if_pos rfl]
theorem chk4 (n b1 b2 b3 lo hi : Nat) : Lib.checkN n b1 b2 b3 4 lo hi = if n < 4 ∨ b1 < lo ∨ hi < b1 ∨ b2 < 128 ∨ 191 < b2 ∨ b3 < 128 ∨ 191 < b3 then none else some 4 := by unfold Lib.checkN; rw [if_neg (by omega), if_neg (by omega), if_pos rfl]
set_option maxHeartbeats 4000000 in
theorem szN_decode (n b0 b1 b2 b3 : Nat) (hn : 1 ≤ n) (h0 : b0 < 256) (h1 : b1 < 256) (h2 : b2 < 256) (h3 : b3 < 256) :
    szN n b0 b1 b2 b3 = if (Lib.decodeN n b0 b1 b2 b3).1 = 65533 ∧ (Lib.decodeN n b0 b1 b2 b3).2 = 1 then 0 else (Lib.decodeN n b0 b1 b2 b3).2 := by
  by_cases hlo : b0 < 128
  · have e : Lib.decodeN n b0 b1 b2 b3 = (b0, 1) := by unfold Lib.decodeN; rw [if_pos hlo]
    rw [e, if_neg (by simp; omega)]
    unfold szN inN
    rw [if_pos (by simp; omega)]
  have key : ∀ sz lo hi, Lib.firstT b0 % 8 = sz → Lib.accLo (Lib.firstT b0 / 16) = lo → Lib.accHi (Lib.firstT b0 / 16) = hi → szN n b0 b1 b2 b3 = (match Lib.checkN n b1 b2 b3 sz lo hi with | none => 0 | some k => k) →
      szN n b0 b1 b2 b3 = if (Lib.decodeN n b0 b1 b2 b3).1 = 65533 ∧ (Lib.decodeN n b0 b1 b2 b3).2 = 1 then 0 else (Lib.decodeN n b0 b1 b2 b3).2 := by
    intro sz lo hi e1 e2 e3 e
    rcases Lib.check_decode n b0 b1 b2 b3 hn (by omega) h0 h1 h2 h3 with ⟨hc, hd⟩ | ⟨k, hk, hc, hd⟩
    · rw [e1, e2, e3] at hc
      rw [e, hc, hd]
      rfl
    · rw [e1, e2, e3] at hc
      rw [e, hc, hd, if_neg (by omega)]
  by_cases c0 : b0 < 194
  · refine key 1 0 0 (by simp [Lib.firstT, hlo, c0]) (by simp [Lib.firstT, Lib.accLo, hlo, c0]) (by simp [Lib.firstT, Lib.accHi, hlo, c0]) ?_
    unfold szN inN secN Lib.checkN
    simp only [Bool.and_eq_true, decide_eq_true_eq]
    rw [if_neg (by omega), if_neg (by omega), if_neg (by omega), if_neg (by omega)]
    rfl
  by_cases c1 : b0 < 224
  · refine key 2 128 191 (by simp [Lib.firstT, hlo, c0, c1]) (by simp [Lib.firstT, Lib.accLo, hlo, c0, c1]) (by simp [Lib.firstT, Lib.accHi, hlo, c0, c1]) ?_
    rw [chk2]
    unfold szN inN secN
    simp only [Bool.and_eq_true, decide_eq_true_eq]
    rw [if_neg (by omega)]
    by_cases q : n < 2 ∨ b1 < 128 ∨ 191 < b1
    · rw [if_pos q, if_neg (by omega), if_neg (by omega), if_neg (by omega)]
    · rw [if_neg q, if_pos (by omega)]
  by_cases c2 : b0 = 224
  · refine key 3 160 191 (by rw [c2]; decide) (by rw [c2]; decide) (by rw [c2]; decide) ?_
    rw [chk3]
    unfold szN secN
    rw [if_pos c2]
    unfold inN
    simp only [Bool.and_eq_true, decide_eq_true_eq]
    rw [if_neg (by omega), if_neg (by omega)]
    by_cases q : n < 3 ∨ b1 < 160 ∨ 191 < b1 ∨ b2 < 128 ∨ 191 < b2
    · rw [if_pos q, if_neg (by omega), if_neg (by omega)]
    · rw [if_neg q, if_pos (by omega)]
  by_cases c3 : b0 < 237
  · refine key 3 128 191 (by simp [Lib.firstT, hlo, c0, c1, c2, c3]) (by simp [Lib.firstT, Lib.accLo, hlo, c0, c1, c2, c3]) (by simp [Lib.firstT, Lib.accHi, hlo, c0, c1, c2, c3]) ?_
    rw [chk3]
    unfold szN secN
    rw [if_neg (show ¬ b0 = 224 by omega), if_neg (show ¬ b0 = 237 by omega), if_neg (show ¬ b0 = 240 by omega), if_neg (show ¬ b0 = 244 by omega)]
    unfold inN
    simp only [Bool.and_eq_true, decide_eq_true_eq]
    rw [if_neg (by omega), if_neg (by omega)]
    by_cases q : n < 3 ∨ b1 < 128 ∨ 191 < b1 ∨ b2 < 128 ∨ 191 < b2
    · rw [if_pos q, if_neg (by omega), if_neg (by omega)]
    · rw [if_neg q, if_pos (by omega)]
  by_cases c4 : b0 = 237
  · refine key 3 128 159 (by rw [c4]; decide) (by rw [c4]; decide) (by rw [c4]; decide) ?_
    rw [chk3]
    unfold szN secN
    rw [if_neg (show ¬ b0 = 224 by omega), if_pos c4]
    unfold inN
    simp only [Bool.and_eq_true, decide_eq_true_eq]
    rw [if_neg (by omega), if_neg (by omega)]
    by_cases q : n < 3 ∨ b1 < 128 ∨ 159 < b1 ∨ b2 < 128 ∨ 191 < b2
    · rw [if_pos q, if_neg (by omega), if_neg (by omega)]
    · rw [if_neg q, if_pos (by omega)]
  by_cases c5 : b0 < 240
  · refine key 3 128 191 (by simp [Lib.firstT, hlo, c0, c1, c2, c3, c4, c5]) (by simp [Lib.firstT, Lib.accLo, hlo, c0, c1, c2, c3, c4, c5]) (by simp [Lib.firstT, Lib.accHi, hlo, c0, c1, c2, c3, c4, c5]) ?_
    rw [chk3]
    unfold szN secN
    rw [if_neg (show ¬ b0 = 224 by omega), if_neg (show ¬ b0 = 237 by omega), if_neg (show ¬ b0 = 240 by omega), if_neg (show ¬ b0 = 244 by omega)]
    unfold inN
    simp only [Bool.and_eq_true, decide_eq_true_eq]
    rw [if_neg (by omega), if_neg (by omega)]
    by_cases q : n < 3 ∨ b1 < 128 ∨ 191 < b1 ∨ b2 < 128 ∨ 191 < b2
    · rw [if_pos q, if_neg (by omega), if_neg (by omega)]
    · rw [if_neg q, if_pos (by omega)]
  by_cases c6 : b0 = 240
  · refine key 4 144 191 (by rw [c6]; decide) (by rw [c6]; decide) (by rw [c6]; decide) ?_
    rw [chk4]
    unfold szN secN
    rw [if_neg (show ¬ b0 = 224 by omega), if_neg (show ¬ b0 = 237 by omega), if_pos c6]
    unfold inN
    simp only [Bool.and_eq_true, decide_eq_true_eq]
    rw [if_neg (by omega), if_neg (by omega), if_neg (by omega)]
    by_cases q : n < 4 ∨ b1 < 144 ∨ 191 < b1 ∨ b2 < 128 ∨ 191 < b2 ∨ b3 < 128 ∨ 191 < b3
    · rw [if_pos q, if_neg (by omega)]
    · rw [if_neg q, if_pos (by omega)]
  by_cases c7 : b0 < 244
  · refine key 4 128 191 (by simp [Lib.firstT, hlo, c0, c1, c2, c3, c4, c5, c6, c7]) (by simp [Lib.firstT, Lib.accLo, hlo, c0, c1, c2, c3, c4, c5, c6, c7]) (by simp [Lib.firstT, Lib.accHi, hlo, c0, c1, c2, c3, c4, c5, c6, c7]) ?_
    rw [chk4]
    unfold szN secN
    rw [if_neg (show ¬ b0 = 224 by omega), if_neg (show ¬ b0 = 237 by omega), if_neg (show ¬ b0 = 240 by omega), if_neg (show ¬ b0 = 244 by omega)]
    unfold inN
    simp only [Bool.and_eq_true, decide_eq_true_eq]
    rw [if_neg (by omega), if_neg (by omega), if_neg (by omega)]
    by_cases q : n < 4 ∨ b1 < 128 ∨ 191 < b1 ∨ b2 < 128 ∨ 191 < b2 ∨ b3 < 128 ∨ 191 < b3
    · rw [if_pos q, if_neg (by omega)]
    · rw [if_neg q, if_pos (by omega)]
  by_cases c8 : b0 = 244
  · refine key 4 128 143 (by rw [c8]; decide) (by rw [c8]; decide) (by rw [c8]; decide) ?_
    rw [chk4]
    unfold szN secN
    rw [if_neg (show ¬ b0 = 224 by omega), if_neg (show ¬ b0 = 237 by omega), if_neg (show ¬ b0 = 240 by omega), if_pos c8]
    unfold inN
    simp only [Bool.and_eq_true, decide_eq_true_eq]
    rw [if_neg (by omega), if_neg (by omega), if_neg (by omega)]
    by_cases q : n < 4 ∨ b1 < 128 ∨ 143 < b1 ∨ b2 < 128 ∨ 191 < b2 ∨ b3 < 128 ∨ 191 < b3
    · rw [if_pos q, if_neg (by omega)]
    · rw [if_neg q, if_pos (by omega)]
  · rw [Lib.decodeN_bad n b0 b1 b2 b3 (.inr ⟨by omega, h0⟩), if_pos ⟨rfl, rfl⟩]
    unfold szN inN secN
    simp only [Bool.and_eq_true, decide_eq_true_eq]
    rw [if_neg (by omega), if_neg (by omega), if_neg (by omega), if_neg (by omega)]
theorem szL_N (l : List UInt8) (hne : l ≠ []) : szL l = szN l.length (l.getD 0 0).toNat (l.getD 1 0).toNat (l.getD 2 0).toNat (l.getD 3 0).toNat := by
  have hl : 0 < l.length := List.length_pos_iff.2 hne
  rw [szN_decode _ _ _ _ _ hl (l.getD 0 0).toNat_lt (l.getD 1 0).toNat_lt (l.getD 2 0).toNat_lt (l.getD 3 0).toNat_lt, ← Lib.decodeL_N]
  unfold szL
  rw [if_neg hne]
theorem szL_le (l : List UInt8) : szL l ≤ l.length := by
  unfold szL
  split
  · omega
  · split
    · omega
    · exact Lib.decodeL_le l (by assumption)
def rfixG : Nat → List UInt8 → List UInt8
  | 0, _ => []
  | f + 1, l => if l = [] then [] else if szL l = 0 then [239, 191, 189] ++ rfixG f (l.drop 1) else l.take (szL l) ++ rfixG f (l.drop (szL l))
def rfix (l : List UInt8) : List UInt8 := rfixG l.length l
theorem rfixG_fuel : ∀ (n m : Nat) (l : List UInt8), l.length ≤ n → l.length ≤ m → rfixG n l = rfixG m l
  | 0, m, l, hn, _ => by
    have : l = [] := List.eq_nil_of_length_eq_zero (by omega)
    subst this
    cases m <;> simp [rfixG]
  | n + 1, 0, l, _, hm => by
    have : l = [] := List.eq_nil_of_length_eq_zero (by omega)
    subst this
    simp [rfixG]
  | n + 1, m + 1, l, hn, hm => by
    unfold rfixG
    by_cases hne : l = []
    · simp [hne]
    · have hl : 0 < l.length := List.length_pos_iff.2 hne
      rw [if_neg hne, if_neg hne, rfixG_fuel n m (l.drop 1) (by rw [List.length_drop]; omega) (by rw [List.length_drop]; omega)]
      by_cases h0 : szL l = 0
      · rw [if_pos h0, if_pos h0]
      · rw [if_neg h0, if_neg h0, rfixG_fuel n m (l.drop (szL l)) (by rw [List.length_drop]; omega) (by rw [List.length_drop]; omega)]
theorem rfix_nil : rfix [] = [] := rfl
theorem rfix_step (l : List UInt8) (hne : l ≠ []) : rfix l = if szL l = 0 then [239, 191, 189] ++ rfix (l.drop 1) else l.take (szL l) ++ rfix (l.drop (szL l)) := by
  have hl : 0 < l.length := List.length_pos_iff.2 hne
  obtain ⟨n, hn⟩ : ∃ n, l.length = n + 1 := ⟨l.length - 1, by omega⟩
  show rfixG l.length l = _
  rw [hn]
  show (if l = [] then [] else _) = _
  rw [if_neg hne]
  by_cases h0 : szL l = 0
  · rw [if_pos h0, if_pos h0]
    unfold rfix
    rw [rfixG_fuel n (l.drop 1).length _ (by rw [List.length_drop]; omega) (Nat.le_refl _)]
  · rw [if_neg h0, if_neg h0]
    unfold rfix
    rw [rfixG_fuel n (l.drop (szL l)).length _ (by rw [List.length_drop]; omega) (Nat.le_refl _)]
theorem rfix_valid : ∀ (n : Nat) (l : List UInt8), l.length ≤ n → (Lib.validD l = true ↔ rfix l = l) ∧ l.length ≤ (rfix l).length
  | 0, l, h => by
    have : l = [] := List.eq_nil_of_length_eq_zero (by omega)
    subst this
    exact ⟨⟨fun _ => rfl, fun _ => rfl⟩, Nat.le_refl _⟩
  | n + 1, l, h => by
    by_cases hne : l = []
    · subst hne
      exact ⟨⟨fun _ => rfl, fun _ => rfl⟩, Nat.le_refl _⟩
    · have hl : 0 < l.length := List.length_pos_iff.2 hne
      have hw := Lib.decodeL_width l
      rw [Lib.validD_step l hne, rfix_step l hne]
      by_cases hb : (Lib.decodeL l).1 = 65533 ∧ (Lib.decodeL l).2 = 1
      · have e0 : szL l = 0 := by unfold szL; rw [if_neg hne, if_pos hb]
        have ih := rfix_valid n (l.drop 1) (by rw [List.length_drop]; omega)
        rw [if_pos hb, if_pos e0]
        have hlen : l.length < ([239, 191, 189] ++ rfix (l.drop 1)).length := by
          have := ih.2
          rw [List.length_drop] at this
          rw [List.length_append, List.length_cons, List.length_cons, List.length_cons, List.length_nil]
          omega
        refine ⟨⟨fun e => absurd e (by simp), fun e => ?_⟩, Nat.le_of_lt hlen⟩
        rw [e] at hlen
        omega
      · have e0 : szL l = (Lib.decodeL l).2 := by unfold szL; rw [if_neg hne, if_neg hb]
        have hle := Lib.decodeL_le l hne
        have ih := rfix_valid n (l.drop (szL l)) (by rw [List.length_drop]; omega)
        rw [if_neg hb, ← e0, if_neg (by omega), ih.1]
        refine ⟨⟨fun e => ?_, fun e => ?_⟩, ?_⟩
        · rw [e, List.take_append_drop]
        · have e2 : l.take (szL l) ++ rfix (l.drop (szL l)) = l.take (szL l) ++ l.drop (szL l) := e.trans (List.take_append_drop _ _).symm
          exact List.append_cancel_left e2
        · have := ih.2
          rw [List.length_append, List.length_take]
          rw [List.length_drop] at this
          omega
theorem rfix_iff (l : List UInt8) : Lib.validD l = true ↔ rfix l = l := (rfix_valid l.length l (Nat.le_refl _)).1
def bnd (n : Int) : Int := min (max n 1) 1000
theorem bnd_lo (n : Int) : 1 ≤ bnd n := by unfold bnd; omega
theorem bnd_hi (n : Int) : bnd n ≤ 1000 := by unfold bnd; omega
theorem bnd_a {n : Int} (h : n < 1) : bnd n = 1 := by unfold bnd; omega
theorem bnd_b {n : Int} (h2 : 1000 < n) : bnd n = 1000 := by unfold bnd; omega
theorem bnd_c {n : Int} (h : 1 ≤ n) (h2 : n ≤ 1000) : bnd n = n := by unfold bnd; omega
theorem ret_int {k : IntKind} {a b : Int} (h : a = b) : Ending.returned (.int k a) = .returned (.int k b) := by rw [h]
theorem norm_cells (b s : Int) (w : World) :
    Calls Tryz.prog 160 #[.agg #[.int .i64 b, .int .i64 s]] w fun e w' => e = .returned (.agg #[.int .i64 (bnd b), .int .i64 (bnd s)]) ∧ Below w.heap.size w w' := by
  go_enter Tryz.func160, Tryz.ntmps160
  go_wp2
  all_goals
    refine bodyPost_ret (v := .agg #[.int .i64 (bnd b), .int .i64 (bnd s)]) ?_ rfl ⟨rfl, ((Below.refl _ _).alloc (Nat.le_refl _) _).alloc (by simp) _⟩
    first
      | rw [bnd_a (n := b) ‹_›]
      | rw [bnd_b (n := b) ‹_›]
      | rw [bnd_c (n := b) ‹_› ‹_›]
    first
      | rw [bnd_a (n := s) ‹_›]
      | rw [bnd_b (n := s) ‹_›]
      | rw [bnd_c (n := s) ‹_› ‹_›]
    simp [results, Tryz.results160, go_sem]
def hdl (b s slot : Int) : Int := if slot < 0 ∨ 2147483647 < slot then 0 else bnd b + bnd s * slot
def idx (b s h : Int) : Int := if h < bnd b ∨ (h - bnd b) % bnd s ≠ 0 ∨ 2147483647 < (h - bnd b) / bnd s then -1 else (h - bnd b) / bnd s
theorem mul_small {a b : Int} (ha : 1 ≤ a) (ha' : a ≤ 1000) (hb : 0 ≤ b) (hb' : b ≤ 2147483647) : 0 ≤ a * b ∧ a * b ≤ 2147483647000 := by
  refine ⟨Int.mul_nonneg (by omega) hb, ?_⟩
  have h1 : a * b ≤ 1000 * b := Int.mul_le_mul_of_nonneg_right ha' hb
  omega
theorem handle_any (b s slot : Int) (w : World) :
    Calls Tryz.prog 141 #[.agg #[.int .i64 b, .int .i64 s], .int .i64 slot] w fun e w' => e = .returned (.int .i64 (hdl b s slot)) ∧ Below w.heap.size w w' := by
  by_cases h0 : slot < 0
  · have e0 : hdl b s slot = 0 := by unfold hdl; rw [if_pos (.inl h0)]
    rw [e0]
    go_enter Tryz.func141, Tryz.ntmps141
    go_wp2
    go_ret
    exact ⟨rfl, (Below.refl _ _).alloc (Nat.le_refl _) _⟩
  · by_cases h1 : 2147483647 < slot
    · have e0 : hdl b s slot = 0 := by unfold hdl; rw [if_pos (.inr h1)]
      rw [e0]
      go_enter Tryz.func141, Tryz.ntmps141
      go_wp2
      go_ret
      exact ⟨rfl, (Below.refl _ _).alloc (Nat.le_refl _) _⟩
    · have e0 : hdl b s slot = bnd b + bnd s * slot := by unfold hdl; rw [if_neg (by omega)]
      rw [e0]; clear e0
      have b1 := bnd_lo b
      have b2 := bnd_hi b
      have s1 := bnd_lo s
      have s2 := bnd_hi s
      have hm := mul_small s1 s2 (by omega) (by omega : slot ≤ 2147483647)
      obtain ⟨hm1, hm2⟩ := hm
      go_enter Tryz.func141, Tryz.ntmps141
      go_wp2_with (go_at_call 160; refine (norm_cells b s _).mono ?_; rintro e w1 ⟨rfl, hb1⟩)
      go_ret
      refine ⟨rfl, ?_⟩
      exact (bthen ((Below.refl _ _).alloc (Nat.le_refl _) _) hb1).alloc (by have := hb1.size; simp at this; omega) _
theorem idx_no {b s h : Int} (k : h < bnd b ∨ (h - bnd b) % bnd s ≠ 0 ∨ 2147483647 < (h - bnd b) / bnd s) : idx b s h = -1 := by
  unfold idx; rw [if_pos k]
theorem idx_yes {b s h : Int} (k1 : bnd b ≤ h) (k2 : (h - bnd b) % bnd s = 0) (k3 : (h - bnd b) / bnd s ≤ 2147483647) : idx b s h = (h - bnd b) / bnd s := by
  unfold idx; rw [if_neg]; rintro (h | h | h) <;> omega
theorem index_any (b s h : Int) (w : World) (h1 : -9223372036854775808 ≤ h) (h2 : h ≤ 9223372036854775807) :
    Calls Tryz.prog 164 #[.agg #[.int .i64 b, .int .i64 s], .int .i64 h] w fun e w' => e = .returned (.int .i64 (idx b s h)) ∧ Below w.heap.size w w' := by
  have b1 := bnd_lo b
  have b2 := bnd_hi b
  have s1 := bnd_lo s
  have s2 := bnd_hi s
  go_enter Tryz.func164, Tryz.ntmps164
  go_wp2_with (go_at_call 160; refine (norm_cells b s _).mono ?_; rintro e w1 ⟨rfl, hb1⟩)
  all_goals
    go_ret
    refine ⟨ret_int ?_, (bthen ((Below.refl _ _).alloc (Nat.le_refl _) _) hb1).alloc (by have := hb1.size; simp at this; omega) _⟩
    first
      | exact (idx_no (.inl (by omega))).symm
      | exact (idx_no (.inr (.inl (by assumption)))).symm
      | exact (idx_no (.inr (.inr (by omega)))).symm
      | exact (idx_yes (by omega) (by assumption) (by omega)).symm
structure Nd where
  kind : Int
  name : List UInt8
  av : Value
  attrs : List (List UInt8 × List UInt8)
  data : List UInt8
  parent : Int
  first : Int
  last : Int
  prev : Int
  next : Int
def strV (l : List UInt8) : Value := .string ⟨l.toArray⟩
def ndC (n : Nd) : List Value := [.int .i64 n.kind, strV n.name, n.av, strV n.data, .int .i64 n.parent, .int .i64 n.first, .int .i64 n.last, .int .i64 n.prev, .int .i64 n.next]
def zeroC : List Value := [.int .i64 0, strV [], .slice none 0 0, strV [], .int .i64 0, .int .i64 0, .int .i64 0, .int .i64 0, .int .i64 0]
def slotC : Option Nd → List Value
  | none => .bool false :: zeroC
  | some n => .bool true :: ndC n
theorem slotC_len (x : Option Nd) : (slotC x).length = 10 := by cases x <;> rfl
def rowC (l : List (Option Nd)) : List Value := l.flatMap slotC
theorem rowC_at (l : List (Option Nd)) (i : Nat) (x : Option Nd) (h : l[i]? = some x) (j : Nat) (hj : j < 10) : (rowC l)[i * 10 + j]? = (slotC x)[j]? := by
  induction l generalizing i with
  | nil => simp at h
  | cons y l ih =>
    rw [rowC, List.flatMap_cons]
    cases i with
    | zero =>
      simp at h; subst h
      rw [List.getElem?_append_left (by rw [slotC_len]; omega)]
      congr 1; omega
    | succ i =>
      rw [List.getElem?_append_right (by rw [slotC_len]; omega), slotC_len, show (i + 1) * 10 + j - 10 = i * 10 + j by omega]
      exact ih i (by simpa using h)
theorem rowC_set (l : List (Option Nd)) (i : Nat) (x : Option Nd) (hi : i < l.length) (j : Nat) (u : Value) (hj : j < 10) (y : Option Nd) (hy : l[i]? = some y) (hx : slotC x = (slotC y).set j u) : rowC (l.set i x) = (rowC l).set (i * 10 + j) u := by
  induction l generalizing i with
  | nil => simp at hi
  | cons z l ih =>
    cases i with
    | zero =>
      simp at hy; subst hy
      simp only [List.set_cons_zero, rowC, List.flatMap_cons]
      rw [hx, List.set_append_left _ _ (by rw [slotC_len]; omega)]
      congr 2; omega
    | succ i =>
      simp only [List.set_cons_succ, rowC, List.flatMap_cons]
      rw [List.set_append_right _ _ (by rw [slotC_len]; omega), slotC_len, show (i + 1) * 10 + j - 10 = i * 10 + j by omega]
      congr 1
      exact ih i (by simpa using hi) (by simpa using hy)
structure Tr where
  b : Int
  s : Int
  slots : List (Option Nd)
  free : List Nat
  root : Int
def Tr.live (S : Tr) : Nat := (S.slots.filter Option.isSome).length
def Tr.hd (S : Tr) (i : Nat) : Int := hdl S.b S.s i
def Tr.ix (S : Tr) (h : Int) : Option Nat :=
  if 0 ≤ idx S.b S.s h ∧ ((S.slots[(idx S.b S.s h).toNat]?).map Option.isSome) = some true then some (idx S.b S.s h).toNat else none
def AttrAt (B : Nat) (w : World) (av : Value) (l : List (List UInt8 × List UInt8)) : Prop :=
  ∃ a cap, av = .slice a l.length cap ∧ (l = [] ∨ ∃ g cur, a = some ⟨g, 0, none⟩ ∧ B ≤ g ∧ w.heap[g]? = some (.cells cur 85 (0, 0)) ∧
    ∀ i p, l[i]? = some p → cur[2 * i]? = some (strV p.1) ∧ cur[2 * i + 1]? = some (strV p.2))
structure TAt (B R : Nat) (S : Tr) (sv fv : Value) (w : World) : Prop where
  blk : Blk w R [.int .i64 S.b, .int .i64 S.s, sv, fv, .int .i64 S.live, .int .i64 S.root] 111
  slots : w.ownsRow B 182 10 sv S.slots.length (rowC S.slots)
  free : w.ownsRow B 3 1 fv S.free.length (S.free.map fun (i : Nat) => Value.int .i64 (i : Int))
  attrs : ∀ (i : Nat) (n : Nd), S.slots[i]? = some (some n) → AttrAt B w n.av n.attrs
  base : B ≤ R
  few : S.slots.length ≤ 2000000000
theorem TAt.below {B R : Nat} {S : Tr} {sv fv : Value} {w w' : World} (h : TAt B R S sv fv w) (hb : Below w.heap.size w w') : TAt B R S sv fv w' := by
  have keep : ∀ {e sz n : Nat} {v : Value} {xs : List Value}, w.ownsRow B e sz v n xs → w'.ownsRow B e sz v n xs := fun h =>
    h.kept (row := none) ⟨hb.os, hb.tape, hb.output, hb.size, fun k hk _ => hb.block k hk⟩ (by rename_i v _; cases e : v.ownBlock with | none => exact Or.inl rfl | some g => exact Or.inr (by simp))
  refine ⟨h.blk.below hb, keep h.slots, keep h.free, fun i n hi => ?_, h.base, h.few⟩
  obtain ⟨a, cap, e, h'⟩ := h.attrs i n hi
  refine ⟨a, cap, e, h'.imp id ?_⟩
  rintro ⟨g, cur, e, hB, hg, hc⟩
  exact ⟨g, cur, e, hB, (hb.block g (lt_of_block hg)).trans hg, hc⟩
theorem ix_some {S : Tr} {h : Int} {i : Nat} (k : S.ix h = some i) : idx S.b S.s h = (i : Int) ∧ i < S.slots.length ∧ ∃ n, S.slots[i]? = some (some n) := by
  unfold Tr.ix at k
  split at k
  · rename_i c
    obtain ⟨c1, c2⟩ := c
    simp only [Option.some.injEq] at k
    subst k
    rw [Option.map_eq_some_iff] at c2
    obtain ⟨x, hx, hs⟩ := c2
    obtain ⟨n, rfl⟩ := Option.isSome_iff_exists.1 hs
    exact ⟨by omega, (List.getElem?_eq_some_iff.1 hx).1, n, hx⟩
  · cases k
theorem ix_none {S : Tr} {h : Int} (k : S.ix h = none) (h0 : 0 ≤ idx S.b S.s h) (h1 : (idx S.b S.s h).toNat < S.slots.length) : S.slots[(idx S.b S.s h).toNat]? = some none := by
  unfold Tr.ix at k
  split at k
  · cases k
  · rename_i c
    rw [List.getElem?_eq_getElem h1] at c ⊢
    generalize S.slots[(idx S.b S.s h).toNat] = x at c ⊢
    cases x with
    | none => rfl
    | some n => exact absurd ⟨h0, rfl⟩ c
theorem idx_lo (b s h : Int) : -1 ≤ idx b s h := by
  unfold idx
  have := bnd_lo s
  split
  · omega
  · rename_i k
    have : 0 ≤ (h - bnd b) / bnd s := Int.ediv_nonneg (by omega) (by omega)
    omega
theorem idx_hi (b s h : Int) : idx b s h ≤ 2147483647 := by
  unfold idx
  split <;> omega
def HOk (h : Int) : Prop := -9223372036854775808 ≤ h ∧ h ≤ 9223372036854775807
set_option maxRecDepth 100000 in
set_option maxHeartbeats 2000000 in
theorem len_any {B R : Nat} {S : Tr} {sv fv : Value} {w : World} (h : TAt B R S sv fv w) :
    Calls Tryz.prog 109 #[.pointer (some ⟨R, 0, none⟩)] w fun e w' => e = .returned (.int .i64 S.live) ∧ w' = w := by
  have c := h.blk.cell 4
  simp at c
  clear h
  go_enter Tryz.func109, Tryz.ntmps109
  go_wp2
  go_ret
  exact ⟨rfl, rfl⟩
theorem slots_shape {B R : Nat} {S : Tr} {sv fv : Value} {w : World} (h : TAt B R S sv fv w) : ∃ a cap, sv = .slice a S.slots.length cap := by
  rcases h.slots.2 with ⟨rfl, e⟩ | ⟨g, cap, cur, rfl, _⟩
  · exact ⟨none, 0, by rw [e]⟩
  · exact ⟨_, _, rfl⟩
theorem slots_some {B R : Nat} {S : Tr} {sv fv : Value} {w : World} (h : TAt B R S sv fv w) (hn : 0 < S.slots.length) : ∃ g cap, sv = .slice (some ⟨g, 0, none⟩) S.slots.length cap := by
  rcases h.slots.2 with ⟨_, e⟩ | ⟨g, cap, cur, rfl, _⟩
  · omega
  · exact ⟨_, _, rfl⟩
theorem slot_cell {B R g cap : Nat} {S : Tr} {fv : Value} {w : World} (h : TAt B R S (.slice (some ⟨g, 0, none⟩) S.slots.length cap) fv w) {i : Nat} {x : Option Nd} (hx : S.slots[i]? = some x) (j : Nat) (hj : j < 10) :
    w.cell? ⟨g, i * 10 + j, none⟩ = (slotC x)[j]? := by
  have hl : j < (slotC x).length := by rw [slotC_len]; exact hj
  rw [List.getElem?_eq_getElem hl]
  have := h.slots.cells (g := g) rfl (i * 10 + j) (slotC x)[j] (by rw [rowC_at _ _ _ hx _ hj, List.getElem?_eq_getElem hl])
  rw [show (⟨g, 0, none⟩ : Addr).add (i * 10 + j) = ⟨g, i * 10 + j, none⟩ by unfold Addr.add; split <;> simp_all] at this
  exact this
set_option maxRecDepth 100000 in
set_option maxHeartbeats 2000000 in
theorem find_none {B R : Nat} {S : Tr} {sv fv : Value} {w : World} (h : TAt B R S sv fv w) (hd : Int) (hh : HOk hd) (hk : S.ix hd = none) :
    Calls Tryz.prog 151 #[.pointer (some ⟨R, 0, none⟩), .int .i64 hd] w fun e w' => e = .returned (.pointer none) ∧ Below w.heap.size w w' := by
  have c0 := h.blk.cell 0
  have c1 := h.blk.cell 1
  have c2 := h.blk.cell 2
  have hlt := h.blk.lt
  simp at c0 c1 c2
  have i1 := idx_lo S.b S.s hd
  have i2 := idx_hi S.b S.s hd
  have L := ix_none hk
  clear hk
  have HI := Lib.hid (fun W => index_any S.b S.s hd W hh.1 hh.2)
  generalize hj : idx S.b S.s hd = j at i1 i2 L HI
  clear hj
  by_cases hneg : j < 0
  · obtain ⟨a, cap, rfl⟩ := slots_shape h
    clear L h
    go_enter Tryz.func151, Tryz.ntmps151
    go_wp2_with fail
    refine (HI.out _).mono ?_
    rintro e w2 ⟨rfl, hb2⟩
    obtain ⟨hc, hf⟩ := bcell hb2
    go_wp2_with fail
    go_ret
    exact ⟨rfl, hb2⟩
  · by_cases hge : (S.slots.length : Int) ≤ j
    · obtain ⟨a, cap, rfl⟩ := slots_shape h
      clear L h
      go_enter Tryz.func151, Tryz.ntmps151
      go_wp2_with fail
      refine (HI.out _).mono ?_
      rintro e w2 ⟨rfl, hb2⟩
      obtain ⟨hc, hf⟩ := bcell hb2
      go_wp2_with fail
      go_ret
      exact ⟨rfl, hb2⟩
    · have hx := L (by omega) (by omega)
      obtain ⟨k, rfl⟩ := Int.eq_ofNat_of_zero_le (a := j) (by omega)
      obtain ⟨g, cap, rfl⟩ := slots_some h (by omega)
      rw [Int.toNat_natCast] at hx
      have u := slot_cell h hx 0 (by omega)
      simp only [slotC, List.getElem?_cons_zero, Nat.add_zero] at u
      have hg := (h.slots.lt g rfl).2
      have hk1 : k < S.slots.length := by omega
      clear L h hx
      go_enter Tryz.func151, Tryz.ntmps151
      go_wp2_with fail
      refine (HI.out _).mono ?_
      rintro e w2 ⟨rfl, hb2⟩
      obtain ⟨hc, hf⟩ := bcell hb2
      go_wp2_with fail
      go_ret
      exact ⟨rfl, hb2⟩
set_option maxRecDepth 100000 in
set_option maxHeartbeats 2000000 in
theorem find_some {B R g cap : Nat} {S : Tr} {fv : Value} {w : World} (h : TAt B R S (.slice (some ⟨g, 0, none⟩) S.slots.length cap) fv w) (hd : Int) (hh : HOk hd) {k : Nat} (hk : S.ix hd = some k) :
    Calls Tryz.prog 151 #[.pointer (some ⟨R, 0, none⟩), .int .i64 hd] w fun e w' => e = .returned (.pointer (some ⟨g, k * 10, none⟩)) ∧ Below w.heap.size w w' := by
  have c0 := h.blk.cell 0
  have c1 := h.blk.cell 1
  have c2 := h.blk.cell 2
  have hlt := h.blk.lt
  simp at c0 c1 c2
  obtain ⟨L1, L2, n, hn⟩ := ix_some hk
  have I := fun W => index_any S.b S.s hd W hh.1 hh.2
  rw [L1] at I
  have HI := Lib.hid I
  have u := slot_cell h hn 0 (by omega)
  simp only [slotC, List.getElem?_cons_zero, Nat.add_zero] at u
  have hg := (h.slots.lt g rfl).2
  clear I L1 hk hn h
  go_enter Tryz.func151, Tryz.ntmps151
  go_wp2_with fail
  refine (HI.out _).mono ?_
  rintro e w2 ⟨rfl, hb2⟩
  obtain ⟨hc, hf⟩ := bcell hb2
  go_wp2_with fail
  go_ret
  exact ⟨rfl, hb2⟩
abbrev na (g k : Nat) : Addr := ⟨g, k * 10 + 1, none⟩
set_option maxRecDepth 100000 in
set_option maxHeartbeats 2000000 in
theorem At_none {B R : Nat} {S : Tr} {sv fv : Value} {w : World} (h : TAt B R S sv fv w) (hd : Int) (hh : HOk hd) (hk : S.ix hd = none) :
    Calls Tryz.prog 139 #[.pointer (some ⟨R, 0, none⟩), .int .i64 hd] w fun e w' => e = .returned (.pointer none) ∧ Below w.heap.size w w' := by
  have HF := Lib.hid (find_none h hd hh hk)
  clear h hk
  go_enter Tryz.func139, Tryz.ntmps139
  go_wp2_with fail
  refine HF.out.mono ?_
  rintro e w2 ⟨rfl, hb2⟩
  go_wp2_with fail
  go_ret
  exact ⟨rfl, hb2⟩
set_option maxRecDepth 100000 in
set_option maxHeartbeats 2000000 in
theorem At_some {B R g cap : Nat} {S : Tr} {fv : Value} {w : World} (h : TAt B R S (.slice (some ⟨g, 0, none⟩) S.slots.length cap) fv w) (hd : Int) (hh : HOk hd) {k : Nat} (hk : S.ix hd = some k) :
    Calls Tryz.prog 139 #[.pointer (some ⟨R, 0, none⟩), .int .i64 hd] w fun e w' => e = .returned (.pointer (some (na g k))) ∧ Below w.heap.size w w' := by
  have HF := Lib.hid (find_some h hd hh hk)
  obtain ⟨_, _, n, hn⟩ := ix_some hk
  have u := slot_cell h hn 0 (by omega)
  simp only [slotC, List.getElem?_cons_zero, Nat.add_zero] at u
  have hg := (h.slots.lt g rfl).2
  clear h hk hn
  go_enter Tryz.func139, Tryz.ntmps139
  go_wp2_with fail
  refine HF.out.mono ?_
  rintro e w2 ⟨rfl, hb2⟩
  obtain ⟨hc, hf⟩ := bcell hb2
  go_wp2_with fail
  go_ret
  exact ⟨rfl, hb2⟩
set_option maxRecDepth 100000 in
set_option maxHeartbeats 2000000 in
theorem at_none {B R : Nat} {S : Tr} {sv fv : Value} {w : World} (h : TAt B R S sv fv w) (hd : Int) (hh : HOk hd) (hk : S.ix hd = none) :
    Calls Tryz.prog 103 #[.pointer (some ⟨R, 0, none⟩), .int .i64 hd] w fun e w' => e = .returned (.pointer none) ∧ Below w.heap.size w w' := by
  have HF := Lib.hid (At_none h hd hh hk)
  have c0 := h.blk.cell 0
  simp at c0
  clear h hk
  go_enter Tryz.func103, Tryz.ntmps103
  go_wp2_with fail
  refine HF.out.mono ?_
  rintro e w2 ⟨rfl, hb2⟩
  go_wp2_with fail
  go_ret
  exact ⟨rfl, hb2⟩
set_option maxRecDepth 100000 in
set_option maxHeartbeats 2000000 in
theorem at_some {B R g cap : Nat} {S : Tr} {fv : Value} {w : World} (h : TAt B R S (.slice (some ⟨g, 0, none⟩) S.slots.length cap) fv w) (hd : Int) (hh : HOk hd) {k : Nat} (hk : S.ix hd = some k) :
    Calls Tryz.prog 103 #[.pointer (some ⟨R, 0, none⟩), .int .i64 hd] w fun e w' => e = .returned (.pointer (some (na g k))) ∧ Below w.heap.size w w' := by
  have HF := Lib.hid (At_some h hd hh hk)
  have c0 := h.blk.cell 0
  simp at c0
  clear h hk
  go_enter Tryz.func103, Tryz.ntmps103
  go_wp2_with fail
  refine HF.out.mono ?_
  rintro e w2 ⟨rfl, hb2⟩
  go_wp2_with fail
  go_ret
  exact ⟨rfl, hb2⟩
/-! ### handles -/
theorem hdl_val (b s : Int) (i : Nat) (hi : i ≤ 2000000000) : hdl b s i = bnd b + bnd s * i := by
  unfold hdl; rw [if_neg (by omega)]
theorem hdl_ok (b s : Int) (i : Nat) (hi : i ≤ 2000000000) : HOk (hdl b s i) ∧ 1 ≤ hdl b s i := by
  rw [hdl_val b s i hi]
  have h1 := bnd_lo b
  have h2 := bnd_hi b
  have h3 := mul_small (bnd_lo s) (bnd_hi s) (by omega : (0 : Int) ≤ i) (by omega)
  unfold HOk
  omega
theorem idx_hdl (b s : Int) (i : Nat) (hi : i ≤ 2000000000) : idx b s (hdl b s i) = i := by
  rw [hdl_val b s i hi]
  have h1 := bnd_lo s
  have h2 : bnd b + bnd s * (i : Int) - bnd b = bnd s * i := by omega
  have h3 := mul_small (bnd_lo s) (bnd_hi s) (by omega : (0 : Int) ≤ i) (by omega)
  have h4 : bnd s * (i : Int) % bnd s = 0 := Int.mul_emod_right _ _
  have h5 : bnd s * (i : Int) / bnd s = i := Int.mul_ediv_cancel_left _ (by omega)
  rw [idx_yes (by omega) (by rw [h2]; exact h4) (by rw [h2, h5]; omega), h2, h5]
theorem hdl_inj {b s : Int} {i j : Nat} (hi : i ≤ 2000000000) (hj : j ≤ 2000000000) (h : hdl b s i = hdl b s j) : i = j := by
  have h1 := idx_hdl b s i hi
  have h2 := idx_hdl b s j hj
  rw [h, h2] at h1
  omega
theorem ix_hd {S : Tr} {i : Nat} {n : Nd} (hf : S.slots.length ≤ 2000000000) (h : S.slots[i]? = some (some n)) : S.ix (S.hd i) = some i := by
  have hi := (List.getElem?_eq_some_iff.1 h).1
  unfold Tr.ix Tr.hd
  rw [idx_hdl _ _ _ (by omega), Int.toNat_natCast, h]
  simp
theorem ix_zero (S : Tr) : S.ix 0 = none := by
  unfold Tr.ix
  have : idx S.b S.s 0 = -1 := idx_no (Or.inl (by have := bnd_lo S.b; omega))
  rw [this, if_neg (by omega)]
theorem hok_zero : HOk 0 := by unfold HOk; omega
end Go.Proofs.YtacdbnhnhdlmpaaGreatDoor.W
end
