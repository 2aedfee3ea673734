/- ArenaFresh, the walk: for any Salt and any two bytes the law returns true and changes nothing. -/
import Derived.Test.YtabmmampgmcibaaFreshA
import Derived.Outline
import Derived.IntWalk
import Derived.Deep.DeepCutAuto
import Derived.Deep.RegionHeld3
namespace Go.Proofs.Ytabmmampgmcibaa.W
open Go.RowKit
set_option linter.unusedVariables false

def frR1 (w : World) (g : Nat) (b s : Int) (m : Nat) (gv iv : Value) (wr : World) : Prop :=
  ∃ (i : Nat) (sv fv : Value), i ≤ m ∧ iv = .int .i64 (i : Int) ∧ All w.heap.size w [arI g (fA b s i) sv fv, gl gv (hs b s i)] wr
def frR2 (w : World) (g : Nat) (b s : Int) (m k : Nat) (gv : Value) (iv : Value) (wr : World) : Prop :=
  ∃ (i : Nat) (sv fv : Value), i ≤ k ∧ iv = .int .i64 (i : Int) ∧ All w.heap.size w [arI g (fD b s m i) sv fv, gl gv (hs b s m)] wr
def frR3 (w : World) (g : Nat) (b s : Int) (m k : Nat) (gv : Value) (iv : Value) (wr : World) : Prop :=
  ∃ (i : Nat) (sv fv : Value), i ≤ k ∧ iv = .int .i64 (i : Int) ∧ All w.heap.size w [arI g (fR b s m k i) sv fv, gl gv (hs b s m)] wr

theorem fadd {B : Nat} {w0 w : World} {l2 : List Ob} {g : Nat} {b s : Int} {i : Nat} {sv fv : Value} (h : All B w0 (arI g (fA b s i) sv fv :: l2) w) (hi : i ≤ 1000) :
    Calls Try.prog 19 #[.pointer (some ⟨g, 0, none⟩), .int .i64 (i : Int)] w (DidAll (.int .i64 (hdl b s (i : Nat))) B w0 [] g (fA b s (i + 1)) l2) := by
  have := add_all [] h (i : Int) (fA_fit b s i _ (by omega))
  rw [fA_add, fA_next] at this
  exact this
theorem fdrop {B : Nat} {w0 w : World} {l2 : List Ob} {g : Nat} {b s : Int} {m j : Nat} {sv fv : Value} (h : All B w0 (arI g (fD b s m j) sv fv :: l2) w) (hj : j < m) (hm : m ≤ 1000) :
    Calls Try.prog 20 #[.pointer (some ⟨g, 0, none⟩), .int .i64 (hdl b s (j : Nat))] w (DidAll (.bool true) B w0 [] g (fD b s m (j + 1)) l2) := by
  have := drop_all [] h (hdl b s (j : Nat)) (hdl_lo ..) (hdl_hi ..) (fD_fit b s m j _ (by omega) (by omega))
  rw [fD_has b s m j hj hm, fD_drop b s m j hj hm] at this
  exact this
theorem fdrop2 {B : Nat} {w0 w : World} {l2 : List Ob} {g : Nat} {b s : Int} {m j : Nat} {sv fv : Value} (h : All B w0 (arI g (fD b s m (j + 1)) sv fv :: l2) w) (hj : j < m) (hm : m ≤ 1000) :
    Calls Try.prog 20 #[.pointer (some ⟨g, 0, none⟩), .int .i64 (hdl b s (j : Nat))] w (DidAll (.bool false) B w0 [] g (fD b s m (j + 1)) l2) := by
  have := drop_all [] h (hdl b s (j : Nat)) (hdl_lo ..) (hdl_hi ..) (fD_fit b s m (j + 1) _ (by omega) (by omega))
  rw [fD_hasnt b s m j hj hm, fD_drop_no b s m j hj hm] at this
  exact this
theorem fradd {B : Nat} {w0 w : World} {l2 : List Ob} {g : Nat} {b s : Int} {m k i : Nat} {sv fv : Value} (h : All B w0 (arI g (fR b s m k i) sv fv :: l2) w) (hk : i < k) (hkm : k ≤ m) (hm : m ≤ 1000) :
    Calls Try.prog 19 #[.pointer (some ⟨g, 0, none⟩), .int .i64 (-1)] w (DidAll (.int .i64 (hdl b s ((k - 1 - i : Nat) : Int))) B w0 [] g (fR b s m k (i + 1)) l2) := by
  have := add_all [] h (-1) (fR_fit b s m k i _ (by omega) hkm (by omega))
  rw [fR_add b s m k i hk, fR_next b s m k i hk] at this
  exact this

set_option maxRecDepth 100000 in
theorem fresh_any (b s n d : Int) (w : World) (n1 : 0 ≤ n) (n2 : n ≤ 255) (d1 : 0 ≤ d) (d2 : d ≤ 255) :
    Calls Try.prog 4 #[.agg #[.int .i64 b, .int .i64 s], .int .u8 n, .int .u8 d] w fun e w' => e = .returned (.bool true) ∧ Below w.heap.size w w' := by
  obtain ⟨i0, hi, hz0, hz1, hz2⟩ := info_parts info3
  obtain ⟨m, hm⟩ : ∃ m : Nat, n % 100 = (m : Int) := ⟨(n % 100).toNat, by omega⟩
  have hm2 : m < 100 := by omega
  have HM := Lib.hid hm
  clear hm
  go_enter Try.func4, Try.ntmps4
  go_wp2_with (first
    | (go_at_call 11; refine (awake_any _).mono ?_; rintro e w1 ⟨rfl, hb1⟩; (obtain ⟨hc1, hf1⟩ := bcell hb1))
    | (go_at_call 18; refine (new_any _ _ _).mono ?_; rintro e w2 ⟨rfl, hb2⟩; (obtain ⟨hc2, hf2⟩ := bcell hb2)))
  have hA0 := (((((All.start w).alloc (.cells #[.int .i64 b, .int .i64 s] 23)).still hb1).still hb2).nil 3 1).newAr b s
  generalize w2.alloc (.cells #[.int .i64 b, .int .i64 s, .slice none 0 0, .slice none 0 0, .int .i64 0] 32) = W at hA0 ⊢
  generalize w2.heap.size = g at hA0 ⊢
  clear hb1 hb2 hc1 hf1 hc2 hf2
  rw [HM.out]
  go_loopw [9, 22] (fun gv iv wr => frR1 w g b s m gv iv wr) (fun _ iv _ => m - (intOf iv).toNat)
  case atStart => exact ⟨0, _, _, Nat.zero_le _, rfl, hA0⟩
  case round =>
    clear hA0
    obtain ⟨i, sv, fv, hi1, rfl, hA⟩ := hrel
    by_cases hlt : i < m
    · go_wp2_with fail
      refine (fadd hA (by omega)).mono ?_
      rintro e w3 ⟨sv', fv', rfl, hA3⟩
      clear hA
      go_wp2_with (at_builtin; refine wpList_append_gl [arI g (fA b s (i + 1)) sv' fv'] hA3 (hdl b s (i : Nat)) rfl _ _ rfl rfl rfl (by rw [hs_len]; omega) ?_; intro gv' w4 hA4)
      go_roundw
      case rel => exact ⟨i + 1, sv', fv', by omega, by go_num, by rw [hs_succ]; exact hA4⟩
      case measure => simp [intOf]; omega
    · have him : i = m := by omega
      subst him
      clear hlt hi1
      rw [← fD_zero] at hA
      go_upto_region 11 with fail
      go_cut [11] (fun v wx => ∃ k : Nat, k ≤ i ∧ v = .int .i64 (k : Int) ∧ wr = wx)
      case first =>
        obtain ⟨dn, rfl⟩ := Int.eq_ofNat_of_zero_le d1
        go_wp2_with fail
        all_goals
          go_meet
          exact ⟨_, by omega, rfl, rfl⟩
      case rest =>
        obtain ⟨k, hkm, rfl, rfl⟩ := hcut
        obtain ⟨m, rfl⟩ : ∃ m, m = i := ⟨_, rfl⟩
        go_wp2_with fail
        go_loopw [36] (fun iv wr => frR2 w g b s m k u9 iv wr) (fun iv _ => k - (intOf iv).toNat)
        case atStart => exact ⟨0, _, _, Nat.zero_le _, rfl, hA⟩
        case round =>
          clear hA
          obtain ⟨i, sv, fv, hi1, rfl, hA⟩ := hrel
          by_cases hlt : i < k
          · have hown : Own _ _ _ _ _ _ := hA.tail.head
            rw [hs_len] at hown
            obtain ⟨gg, gc, rfl, hgc⟩ := own_some hown (by omega)
            have hcell := hown.cellAt i (by omega)
            rw [hs_get b s (by omega)] at hcell
            go_wp2_with fail
            refine (fdrop hA (by omega) (by omega)).mono ?_
            rintro e w3 ⟨sv', fv', rfl, hA3⟩
            clear hA hown hcell
            have hown3 : Own _ _ _ _ _ _ := hA3.tail.head
            rw [hs_len] at hown3
            have hcell3 := hown3.cellAt i (by omega)
            rw [hs_get b s (by omega)] at hcell3
            go_wp2_with fail
            refine (fdrop2 hA3 (by omega) (by omega)).mono ?_
            rintro e w4 ⟨sv'', fv'', rfl, hA4⟩
            clear hA3 hown3 hcell3
            go_wp2_with fail
            go_roundw
            case rel => exact ⟨i + 1, sv'', fv'', by omega, by go_num, hA4⟩
            case measure => simp [intOf]; omega
          · have hik : i = k := by omega
            subst hik
            clear hlt hi1
            rw [← fR_zero] at hA
            obtain ⟨k, rfl⟩ : ∃ k, k = i := ⟨_, rfl⟩
            go_wp2_with fail
            go_loopw [54] (fun iv wr => frR3 w g b s m k u9 iv wr) (fun iv _ => k - (intOf iv).toNat)
            case atStart => exact ⟨0, _, _, Nat.zero_le _, rfl, hA⟩
            case round =>
              clear hA
              obtain ⟨i, sv, fv, hi1, rfl, hA⟩ := hrel
              by_cases hlt : i < k
              · have hown : Own _ _ _ _ _ _ := hA.tail.head
                rw [hs_len] at hown
                obtain ⟨gg, gc, rfl, hgc⟩ := own_some hown (by omega)
                have hcell := hown.cellAt (k - 1 - i) (by omega)
                rw [hs_get b s (by omega)] at hcell
                have q1 : (0 : Int) ≤ (k : Int) - 1 - (i : Int) := by omega
                have q2 : (k : Int) - 1 - (i : Int) < (m : Int) := by omega
                have q3 : ((k : Int) - 1 - (i : Int)).toNat = k - 1 - i := by omega
                have q4 : IntKind.i64.wrap ((k : Int) - 1) = (k : Int) - 1 := IntWalk.i64_in _ (by omega)
                have q5 : IntKind.i64.wrap ((k : Int) - 1 - (i : Int)) = (k : Int) - 1 - (i : Int) := IntWalk.i64_in _ (by omega)
                have q6 : (i : Int) ≤ (k : Int) - 1 := by omega
                clear hown
                go_wp2_with fail
                go_region_held3 (fun w' => w'.cell? ⟨gg, k - 1 - i, none⟩ = some (.int .i64 (hdl b s ((k - 1 - i : Nat) : Int)))) (go_keep)
                  (first
                    | (go_at_call 19; refine (fradd hA.drew (by omega) (by omega) (by omega)).mono ?_; rintro e w3 ⟨sv', fv', rfl, hA3⟩; have hown3 : Own _ _ _ _ _ _ := hA3.tail.head; rw [hs_len] at hown3; have hcell3 := hown3.cellAt (k - 1 - i) (by omega); rw [hs_get b s (by omega)] at hcell3))
                clear q1 q2 q3 q4 q5 q6 hown3 hcell3 hcell hA
                go_wp2_with fail
                go_roundw
                case rel => exact ⟨i + 1, sv', fv', by omega, by go_num, hA3⟩
                case measure => simp [intOf]; omega
              · have hik : i = k := by omega
                subst hik
                clear hlt hi1
                have hh : AtI _ _ _ _ _ := hA.head
                obtain ⟨hblk, hsl, hfr, _, _, _⟩ := hh
                rw [fR_len] at hsl
                rw [fR_free] at hfr
                obtain ⟨sa, sc, rfl⟩ := own_shape hsl
                obtain ⟨fa, fc, rfl⟩ := own_shape hfr
                have c2 := hblk.cell 2
                have c3 := hblk.cell 3
                simp at c2 c3
                have L := len_any hA.head
                rw [fR_live] at L
                have HL := Lib.hid L
                clear hblk hsl hfr L
                go_wp2_with (go_at_call 21; refine HL.out.mono ?_; rintro e w3 ⟨rfl, rfl⟩)
                go_ret
                exact ⟨rfl, hA.below⟩
end Go.Proofs.Ytabmmampgmcibaa.W
