/- The contracts of Norm, Handle and Index: what they compute for every salt and number. -/
import Derived.Test.YtfelmdkeaacfeaaDoorRows
import Derived.Test.YtfelmdkeaacfeaaDoorMem
namespace Go.Proofs.YtfelmdkeaacfeaaDoor.W
open Go.RowKit

def bnd (n : Int) : Int := min (max n 1) 1000
theorem bnd_lo (n : Int) : 1 ≤ bnd n := by unfold bnd; omega
theorem bnd_hi (n : Int) : bnd n ≤ 1000 := by unfold bnd; omega
theorem bnd_a {n : Int} (h : n < 1) : bnd n = 1 := by unfold bnd; omega
theorem bnd_b {n : Int} (h2 : 1000 < n) : bnd n = 1000 := by unfold bnd; omega
theorem bnd_c {n : Int} (h : 1 ≤ n) (h2 : n ≤ 1000) : bnd n = n := by unfold bnd; omega
theorem ret_int {k : IntKind} {a b : Int} (h : a = b) : Ending.returned (.int k a) = .returned (.int k b) := by rw [h]

theorem norm_cells (b s : Int) (w : World) :
    Calls Tryd.prog 41 #[.agg #[.int .i64 b, .int .i64 s]] w fun e w' => e = .returned (.agg #[.int .i64 (bnd b), .int .i64 (bnd s)]) ∧ Below w.heap.size w w' := by
  go_enter Tryd.func41, Tryd.ntmps41
  go_wp2
  all_goals
    refine bodyPost_ret (v := .agg #[.int .i64 (bnd b), .int .i64 (bnd s)]) ?_ rfl ⟨rfl, ((Below.refl _ _).alloc (Nat.le_refl _) _).alloc (by simp) _⟩
    first
      | rw [bnd_a (n := b) ‹_›]
      | rw [bnd_b (n := b) ‹_›]
      | rw [bnd_c (n := b) ‹_› ‹_›]
    first
      | rw [bnd_a (n := s) ‹_›]
      | rw [bnd_b (n := s) ‹_›]
      | rw [bnd_c (n := s) ‹_› ‹_›]
    simp [results, Tryd.results41, go_sem]

/-- the handle of a slot -/
def hdl (b s slot : Int) : Int := if slot < 0 ∨ 2147483647 < slot then 0 else bnd b + bnd s * slot
/-- the slot of a handle -/
def idx (b s h : Int) : Int := if h < bnd b ∨ (h - bnd b) % bnd s ≠ 0 ∨ 2147483647 < (h - bnd b) / bnd s then -1 else (h - bnd b) / bnd s

theorem mul_small {a b : Int} (ha : 1 ≤ a) (ha' : a ≤ 1000) (hb : 0 ≤ b) (hb' : b ≤ 2147483647) : 0 ≤ a * b ∧ a * b ≤ 2147483647000 := by
  refine ⟨Int.mul_nonneg (by omega) hb, ?_⟩
  have h1 : a * b ≤ 1000 * b := Int.mul_le_mul_of_nonneg_right ha' hb
  omega

theorem handle_any (b s slot : Int) (w : World) :
    Calls Tryd.prog 26 #[.agg #[.int .i64 b, .int .i64 s], .int .i64 slot] w fun e w' => e = .returned (.int .i64 (hdl b s slot)) ∧ Below w.heap.size w w' := by
  by_cases h0 : slot < 0
  · have e0 : hdl b s slot = 0 := by unfold hdl; rw [if_pos (.inl h0)]
    rw [e0]
    go_enter Tryd.func26, Tryd.ntmps26
    go_wp2
    go_ret
    exact ⟨rfl, (Below.refl _ _).alloc (Nat.le_refl _) _⟩
  · by_cases h1 : 2147483647 < slot
    · have e0 : hdl b s slot = 0 := by unfold hdl; rw [if_pos (.inr h1)]
      rw [e0]
      go_enter Tryd.func26, Tryd.ntmps26
      go_wp2
      go_ret
      exact ⟨rfl, (Below.refl _ _).alloc (Nat.le_refl _) _⟩
    · have e0 : hdl b s slot = bnd b + bnd s * slot := by unfold hdl; rw [if_neg (by omega)]
      rw [e0]; clear e0
      have b1 := bnd_lo b
      have b2 := bnd_hi b
      have s1 := bnd_lo s
      have s2 := bnd_hi s
      have hm := mul_small s1 s2 (by omega) (by omega : slot ≤ 2147483647)
      obtain ⟨hm1, hm2⟩ := hm
      go_enter Tryd.func26, Tryd.ntmps26
      go_wp2_with (go_at_call 41; refine (norm_cells b s _).mono ?_; rintro e w1 ⟨rfl, hb1⟩)
      go_ret
      refine ⟨rfl, ?_⟩
      exact (bthen ((Below.refl _ _).alloc (Nat.le_refl _) _) hb1).alloc (by have := hb1.size; simp at this; omega) _

theorem idx_no {b s h : Int} (k : h < bnd b ∨ (h - bnd b) % bnd s ≠ 0 ∨ 2147483647 < (h - bnd b) / bnd s) : idx b s h = -1 := by
  unfold idx; rw [if_pos k]
theorem idx_yes {b s h : Int} (k1 : bnd b ≤ h) (k2 : (h - bnd b) % bnd s = 0) (k3 : (h - bnd b) / bnd s ≤ 2147483647) : idx b s h = (h - bnd b) / bnd s := by
  unfold idx; rw [if_neg]; rintro (h | h | h) <;> omega

theorem index_any (b s h : Int) (w : World) (h1 : -9223372036854775808 ≤ h) (h2 : h ≤ 9223372036854775807) :
    Calls Tryd.prog 59 #[.agg #[.int .i64 b, .int .i64 s], .int .i64 h] w fun e w' => e = .returned (.int .i64 (idx b s h)) ∧ Below w.heap.size w w' := by
  have b1 := bnd_lo b
  have b2 := bnd_hi b
  have s1 := bnd_lo s
  have s2 := bnd_hi s
  go_enter Tryd.func59, Tryd.ntmps59
  go_wp2_with (go_at_call 41; refine (norm_cells b s _).mono ?_; rintro e w1 ⟨rfl, hb1⟩)
  all_goals
    go_ret
    refine ⟨ret_int ?_, (bthen ((Below.refl _ _).alloc (Nat.le_refl _) _) hb1).alloc (by have := hb1.size; simp at this; omega) _⟩
    first
      | exact (idx_no (.inl (by omega))).symm
      | exact (idx_no (.inr (.inl (by assumption)))).symm
      | exact (idx_no (.inr (.inr (by omega)))).symm
      | exact (idx_yes (by omega) (by assumption) (by omega)).symm

end Go.Proofs.YtfelmdkeaacfeaaDoor.W
