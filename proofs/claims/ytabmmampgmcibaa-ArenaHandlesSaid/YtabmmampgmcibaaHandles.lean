/- ArenaHandles: for any Salt and any numbers, the program's Norm, Handle and Index are the reference's, and handles and slots correspond to each other. -/
import Derived.Test.YtabmmampgmcibaaArenaK
import Derived.Lib.QuietBelow
namespace Go.Proofs.Ytabmmampgmcibaa.W
open Go.RowKit Go.Sort Go.BigFrame
set_option linter.unusedVariables false

theorem idx_hdl (b s slot : Int) (h0 : 0 ≤ slot) (h1 : slot < 2147483648) : idx b s (hdl b s slot) = slot := by
  have b1 := bnd_lo b
  have s1 := bnd_lo s
  have e : hdl b s slot = bnd b + bnd s * slot := by unfold hdl; rw [if_neg (by omega)]
  have hm : 0 ≤ bnd s * slot := Int.mul_nonneg (by omega) h0
  rw [e, idx_yes]
  · rw [show bnd b + bnd s * slot - bnd b = bnd s * slot by omega]; exact Int.mul_ediv_cancel_left _ (by omega)
  · omega
  · rw [show bnd b + bnd s * slot - bnd b = bnd s * slot by omega]; exact Int.mul_emod_right ..
  · rw [show bnd b + bnd s * slot - bnd b = bnd s * slot by omega, Int.mul_ediv_cancel_left _ (by omega)]; omega

theorem hdl_idx (b s h : Int) (k : idx b s h ≠ -1) : 0 ≤ idx b s h ∧ hdl b s (idx b s h) = h := by
  have s1 := bnd_lo s
  unfold idx at k
  split at k
  · exact absurd rfl k
  · rename_i c
    have c1 : bnd b ≤ h := by omega
    have c2 : (h - bnd b) % bnd s = 0 := by omega
    have c3 : (h - bnd b) / bnd s ≤ 2147483647 := by omega
    rw [idx_yes c1 c2 c3]
    have h0 : 0 ≤ (h - bnd b) / bnd s := Int.ediv_nonneg (by omega) (by omega)
    refine ⟨h0, ?_⟩
    unfold hdl
    rw [if_neg (by omega)]
    have := Int.mul_ediv_cancel' (Int.dvd_of_emod_eq_zero c2)
    omega

theorem hdl_rng (b s slot : Int) : 0 ≤ hdl b s slot ∧ hdl b s slot ≤ 2147483648000 := by
  unfold hdl
  split
  · omega
  · have := mul_small (bnd_lo s) (bnd_hi s) (by omega) (by omega : slot ≤ 2147483647)
    have := bnd_lo b
    have := bnd_hi b
    omega

theorem bound_b (b : Int) (w : World) :
    Calls Try.prog 13 #[.int .i64 b] w fun e w' => e = .returned (.int .i64 (bnd b)) ∧ Below w.heap.size w w' :=
  (bound_any b w).mono fun e w' ⟨he, hw⟩ => ⟨he, hw ▸ Below.refl _ _⟩

set_option maxRecDepth 100000 in
theorem handles_any (b s slot h : Int) (w : World) (h1 : -9223372036854775808 ≤ h) (h2 : h ≤ 9223372036854775807) :
    Calls Try.prog 3 #[.agg #[.int .i64 b, .int .i64 s], .int .i64 slot, .int .i64 h] w fun e w' => e = .returned (.bool true) ∧ Below w.heap.size w w' := by
  go_enter Try.func3, Try.ntmps3
  go_wp2_with (first
    | (go_at_call 11; refine (awake_any _).mono ?_; rintro e w1 ⟨rfl, hb1⟩; (obtain ⟨hc1, hf1⟩ := bcell hb1))
    | (go_at_call 12; refine (norm_cells _ _ _).mono ?_; rintro e w2 ⟨rfl, hb2⟩; (obtain ⟨hc2, hf2⟩ := bcell hb2)))
  have c0 : (w2.alloc (.cells #[.int .i64 (bnd b), .int .i64 (bnd s)] 23)).cell? ⟨w.heap.size, 0, none⟩ = some (.int .i64 b) := by
    have := (((Blk.new w [.int .i64 b, .int .i64 s] 23).below hb1).below hb2).alloc (.cells #[.int .i64 (bnd b), .int .i64 (bnd s)] 23)
    simpa using this.cell 0
  have c1 : (w2.alloc (.cells #[.int .i64 (bnd b), .int .i64 (bnd s)] 23)).cell? ⟨w.heap.size, 1, none⟩ = some (.int .i64 s) := by
    have := (((Blk.new w [.int .i64 b, .int .i64 s] 23).below hb1).below hb2).alloc (.cells #[.int .i64 (bnd b), .int .i64 (bnd s)] 23)
    simpa using this.cell 1
  have d0 : (w2.alloc (.cells #[.int .i64 (bnd b), .int .i64 (bnd s)] 23)).cell? ⟨w2.heap.size, 0, none⟩ = some (.int .i64 (bnd b)) := by simp
  have d1 : (w2.alloc (.cells #[.int .i64 (bnd b), .int .i64 (bnd s)] 23)).cell? ⟨w2.heap.size, 1, none⟩ = some (.int .i64 (bnd s)) := by simp
  have hB : Below w.heap.size w (w2.alloc (.cells #[.int .i64 (bnd b), .int .i64 (bnd s)] 23)) :=
    (bthen (bthen ((Below.refl _ _).alloc (Nat.le_refl _) _) hb1) hb2).alloc (by have := hb1.size; have := hb2.size; simp at *; omega) _
  generalize w2.alloc (.cells #[.int .i64 (bnd b), .int .i64 (bnd s)] 23) = W at c0 c1 d0 d1 hB ⊢
  clear hb1 hb2 hc1 hf1 hc2 hf2
  have hpW : w.heap.size ≤ W.heap.size := hB.size
  generalize hp : w.heap.size = p at c0 c1 hB hpW ⊢
  have HP := Lib.hid hp
  clear hp
  generalize w2.heap.size = q at d0 d1 ⊢
  have k0 := cell_regrown c0
  have k1 := cell_regrown c1
  have k2 := cell_regrown d0
  have k3 := cell_regrown d1
  refine wp_region_quiet_below (by kernel_rfl) (by kernel_rfl) ?_
  repeat (go_big_quiet_step (first
    | (go_at_call 13; exact Calls.regrown_of (bound_b _ _))
    | (go_at_call 14; exact Calls.regrown_of (handle_any _ _ _ _))
    | (go_at_call 15; exact Calls.regrown_of (rhandle_any _ _ _ _))
    | (go_at_call 16; exact Calls.regrown_of (index_any _ _ _ _ h1 h2))
    | (go_at_call 17; exact Calls.regrown_of (rindex_any _ _ _ _ h1 h2))))
  refine wpQuiet_nil ?_
  intro _ hw'
  obtain ⟨⟨dq, osq⟩, hw''⟩ := hw'
  subst hw''
  have c0' := k0 dq osq
  have c1' := k1 dq osq
  have hB2 : Below p w (grow (redrawn W dq) osq) := hB.trans ((below_regrown W dq osq).mono hpW)
  have hpW2 : p ≤ (grow (redrawn W dq) osq).heap.size := Nat.le_trans hpW (below_regrown W dq osq).size
  generalize grow (redrawn W dq) osq = W2 at c0' c1' hB2 hpW2 ⊢
  clear c0 c1 d0 d1 hB k0 k1 k2 k3 hpW
  have k0 := cell_regrown c0'
  have k1 := cell_regrown c1'
  have i1 := idx_lo b s h
  have i2 := idx_hi b s h
  by_cases hs0 : 0 ≤ slot
  · by_cases hs1 : slot < 2147483648
    · have hr := hdl_rng b s slot
      have e1 := idx_hdl b s slot hs0 hs1
      have I : ∀ W, Calls Try.prog 16 #[.agg #[.int .i64 b, .int .i64 s], .int .i64 (hdl b s slot)] W fun e w' => e = .returned (.int .i64 slot) ∧ Below W.heap.size W w' := fun W => by
        have := index_any b s (hdl b s slot) W (by omega) (by omega)
        rw [e1] at this
        exact this
      have HI := Lib.hid I
      clear I e1
      go_wp2_with fail
      refine wp_region_quiet_below (by kernel_rfl) (by kernel_rfl) ?_
      repeat (go_big_quiet_step (first
        | (go_at_call 14; exact Calls.regrown_of (handle_any _ _ _ _))
        | (go_at_call 16; exact Calls.regrown_of (HI.out _))))
      refine wpQuiet_nil ?_
      intro _ hw'
      obtain ⟨⟨dq', osq'⟩, hw''⟩ := hw'
      subst hw''
      have c2' := k0 dq' osq'
      have c3' := k1 dq' osq'
      have hB3 : Below p w (grow (redrawn W2 dq') osq') := hB2.trans ((below_regrown W2 dq' osq').mono hpW2)
      have hpW3 : p ≤ (grow (redrawn W2 dq') osq').heap.size := Nat.le_trans hpW2 (below_regrown W2 dq' osq').size
      generalize grow (redrawn W2 dq') osq' = W3 at c2' c3' hB3 hpW3 ⊢
      clear c0' c1' hB2 k0 k1 hpW2
      by_cases hi : idx b s h = -1
      · have I2 : ∀ W, Calls Try.prog 16 #[.agg #[.int .i64 b, .int .i64 s], .int .i64 h] W fun e w' => e = .returned (.int .i64 (-1)) ∧ Below W.heap.size W w' := fun W => hi ▸ index_any b s h W h1 h2
        have HI2 := Lib.hid I2
        clear I2 hi i1 i2
        go_wp2_with (go_at_call 16; refine (HI2.out _).mono ?_; rintro e w4 ⟨rfl, hb4⟩; (obtain ⟨hc4, hf4⟩ := bcell hb4))
        go_ret
        exact ⟨rfl, by rw [HP.out]; exact hB3.trans (hb4.mono hpW3)⟩
      · obtain ⟨j1, j2⟩ := hdl_idx b s h hi
        have I2 := fun W => index_any b s h W h1 h2
        generalize idx b s h = j at *
        have HI2 := Lib.hid I2
        have IH := fun W => handle_any b s j W
        rw [j2] at IH
        have HH := Lib.hid IH
        have lt : p < W3.heap.size := World.block_lt_of_cell? _ _ c2'
        have e1 : (j == -1) = false := by simpa using hi
        clear I2 IH j2
        go_wp2_with (first
          | (go_at_call 16; refine (HI2.out _).mono ?_; rintro e w4 ⟨rfl, hb4⟩; (obtain ⟨hc4, hf4⟩ := bcell hb4))
          | (go_at_call 14; refine (HH.out _).mono ?_; rintro e w5 ⟨rfl, hb5⟩))
        go_ret
        exact ⟨rfl, by rw [HP.out]; exact hB3.trans ((bthen hb4 hb5).mono hpW3)⟩
    · have hd1 : decide (slot < 2147483648) = false := by simpa using hs1
      go_wp2_with fail
      go_quiet (fail)
      have c2' : (W2.drewN nq).cell? ⟨p, 0, none⟩ = some (.int .i64 b) := c0'
      have c3' : (W2.drewN nq).cell? ⟨p, 1, none⟩ = some (.int .i64 s) := c1'
      have hB3 : Below p w (W2.drewN nq) := Below.drewN hB2 nq
      have hpW3 : p ≤ (W2.drewN nq).heap.size := hpW2
      generalize W2.drewN nq = W3 at c2' c3' hB3 hpW3 ⊢
      clear c0' c1' hB2 k0 k1 hpW2
      by_cases hi : idx b s h = -1
      · have I2 : ∀ W, Calls Try.prog 16 #[.agg #[.int .i64 b, .int .i64 s], .int .i64 h] W fun e w' => e = .returned (.int .i64 (-1)) ∧ Below W.heap.size W w' := fun W => hi ▸ index_any b s h W h1 h2
        have HI2 := Lib.hid I2
        clear I2 hi i1 i2
        go_wp2_with (go_at_call 16; refine (HI2.out _).mono ?_; rintro e w4 ⟨rfl, hb4⟩; (obtain ⟨hc4, hf4⟩ := bcell hb4))
        go_ret
        exact ⟨rfl, by rw [HP.out]; exact hB3.trans (hb4.mono hpW3)⟩
      · obtain ⟨j1, j2⟩ := hdl_idx b s h hi
        have I2 := fun W => index_any b s h W h1 h2
        generalize idx b s h = j at *
        have HI2 := Lib.hid I2
        have IH := fun W => handle_any b s j W
        rw [j2] at IH
        have HH := Lib.hid IH
        have lt : p < W3.heap.size := World.block_lt_of_cell? _ _ c2'
        have e1 : (j == -1) = false := by simpa using hi
        clear I2 IH j2
        go_wp2_with (first
          | (go_at_call 16; refine (HI2.out _).mono ?_; rintro e w4 ⟨rfl, hb4⟩; (obtain ⟨hc4, hf4⟩ := bcell hb4))
          | (go_at_call 14; refine (HH.out _).mono ?_; rintro e w5 ⟨rfl, hb5⟩))
        go_ret
        exact ⟨rfl, by rw [HP.out]; exact hB3.trans ((bthen hb4 hb5).mono hpW3)⟩
  · have hd0 : decide (0 ≤ slot) = false := by simpa using hs0
    go_wp2_with fail
    go_quiet (fail)
    have c2' : (W2.drewN nq).cell? ⟨p, 0, none⟩ = some (.int .i64 b) := c0'
    have c3' : (W2.drewN nq).cell? ⟨p, 1, none⟩ = some (.int .i64 s) := c1'
    have hB3 : Below p w (W2.drewN nq) := Below.drewN hB2 nq
    have hpW3 : p ≤ (W2.drewN nq).heap.size := hpW2
    generalize W2.drewN nq = W3 at c2' c3' hB3 hpW3 ⊢
    clear c0' c1' hB2 k0 k1 hpW2
    by_cases hi : idx b s h = -1
    · have I2 : ∀ W, Calls Try.prog 16 #[.agg #[.int .i64 b, .int .i64 s], .int .i64 h] W fun e w' => e = .returned (.int .i64 (-1)) ∧ Below W.heap.size W w' := fun W => hi ▸ index_any b s h W h1 h2
      have HI2 := Lib.hid I2
      clear I2 hi i1 i2
      go_wp2_with (go_at_call 16; refine (HI2.out _).mono ?_; rintro e w4 ⟨rfl, hb4⟩; (obtain ⟨hc4, hf4⟩ := bcell hb4))
      go_ret
      exact ⟨rfl, by rw [HP.out]; exact hB3.trans (hb4.mono hpW3)⟩
    · obtain ⟨j1, j2⟩ := hdl_idx b s h hi
      have I2 := fun W => index_any b s h W h1 h2
      generalize idx b s h = j at *
      have HI2 := Lib.hid I2
      have IH := fun W => handle_any b s j W
      rw [j2] at IH
      have HH := Lib.hid IH
      have lt : p < W3.heap.size := World.block_lt_of_cell? _ _ c2'
      have e1 : (j == -1) = false := by simpa using hi
      clear I2 IH j2
      go_wp2_with (first
        | (go_at_call 16; refine (HI2.out _).mono ?_; rintro e w4 ⟨rfl, hb4⟩; (obtain ⟨hc4, hf4⟩ := bcell hb4))
        | (go_at_call 14; refine (HH.out _).mono ?_; rintro e w5 ⟨rfl, hb5⟩))
      go_ret
      exact ⟨rfl, by rw [HP.out]; exact hB3.trans ((bthen hb4 hb5).mono hpW3)⟩
end Go.Proofs.Ytabmmampgmcibaa.W
