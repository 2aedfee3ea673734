/- ArenaKinds, the walk: for any Salt, strings and drops the law returns true and changes nothing. -/
import Derived.Test.YtabmmampgmcibaaKindsA
import Derived.Test.YtabmmampgmcibaaFilled
namespace Go.Proofs.Ytabmmampgmcibaa.W
open Go.RowKit
set_option linter.unusedVariables false

theorem bk_ne {B : Nat} {w0 w : World} {l : List Ob} (h : All B w0 l w) (i j : Nat) (hij : i ≠ j) {g g' : Nat} {cs cs' : List Value} {t t' : TypeId} (hi : l[i]? = some (bk g cs t)) (hj : l[j]? = some (bk g' cs' t')) : g ≠ g' := fun e =>
  apart_get h.apart hij hi hj g rfl e

def KdR1 (w : World) (g1 g2 g3 : Nat) (b s : Int) (f : Nat → ByteArray) (n : Nat) (gv iv : Value) (wr : World) : Prop :=
  ∃ (i : Nat) (v1 v2 v3 v4 v5 v6 : Value), i ≤ n ∧ iv = .int .i64 (i : Int) ∧ All w.heap.size w (kdL g1 g2 g3 b s f i (fun _ => false) [] i v1 v2 v3 v4 v5 v6 ++ [gl gv (hs b s i), bk w.heap.size [.int .i64 b, .int .i64 s] 23]) wr

def KdR2 (w : World) (g1 g2 g3 : Nat) (b s : Int) (f : Nat → ByteArray) (n m : Nat) (gv iv : Value) (wr : World) : Prop :=
  ∃ (i : Nat) (D : Nat → Bool) (free : List Nat) (live : Int) (v1 v2 v3 v4 v5 v6 : Value), i ≤ m ∧ iv = .int .i64 (i : Int) ∧ Good (fX b s (fun j => (j : Int)) 0 n D free live) ∧ All w.heap.size w (kdL g1 g2 g3 b s f n D free live v1 v2 v3 v4 v5 v6 ++ [gl gv (hs b s n), bk w.heap.size [.int .i64 b, .int .i64 s] 23]) wr
def KdR3 (w : World) (g1 g2 g3 : Nat) (b s : Int) (f : Nat → ByteArray) (n : Nat) (D : Nat → Bool) (free : List Nat) (live : Int) (v1 v2 v3 v4 v5 v6 gv iv : Value) (wr : World) : Prop :=
  ∃ i : Nat, i ≤ n ∧ iv = .int .i64 (i : Int) ∧ All w.heap.size w (kdL g1 g2 g3 b s f n D free live v1 v2 v3 v4 v5 v6 ++ [gl gv (hs b s n), bk w.heap.size [.int .i64 b, .int .i64 s] 23]) wr
theorem zero_first (w : World) {B : Nat} {w0 : World} {l : List Ob} (h : All B w0 l w) : All B w0 (arS w.heap.size (newAr 0 0) (.slice none 0 0) (.slice none 0 0) ++ l) (w.alloc (.cells #[.int .i64 0, .int .i64 0, .slice none 0 0, .slice none 0 0, .int .i64 0] 41)) := by
  have h1 := ((h.newBk [.int .i64 0, .int .i64 0, .slice none 0 0, .slice none 0 0, .int .i64 0] 41).nil 95 2).nil 3 1
  exact All.selp [_, _, _] h1 [2, 1, 0] (by decide) 3 rfl (by decide)
theorem str_cell {w wr : World} {lb lo ln i : Nat} {F : Nat → Value} {l : List Ob} (hl : In w (some ⟨lb, lo, none⟩) ln F) (hi : i < ln) (h : All w.heap.size w l wr) : wr.cell? ⟨lb, lo + i, none⟩ = some (F i) := by
  obtain ⟨lb', lo', he, _, hc⟩ := (hl.still h.below) (by omega)
  simp only [Option.some.injEq, Addr.mk.injEq, and_true] at he
  obtain ⟨rfl, rfl⟩ := he
  exact hc i hi
theorem good_fX {b s : Int} {n : Nat} {D : Nat → Bool} {free : List Nat} {live : Int} (h : Good (fX b s (fun j => (j : Int)) 0 n D free live)) : 0 ≤ live ∧ live ≤ n ∧ free.length ≤ n := by
  have h1 := h.cnt
  have h2 := h.live
  rw [fX_len] at h1
  have e1 : (fX b s (fun j => (j : Int)) 0 n D free live).free = free := rfl
  have e2 : (fX b s (fun j => (j : Int)) 0 n D free live).live = live := rfl
  rw [e1] at h1
  rw [e2] at h2
  omega

set_option maxRecDepth 100000 in
set_option maxHeartbeats 4000000 in
theorem kinds_law (b s : Int) (la da : Option Addr) (ln lc dn dc : Nat) (f : Nat → ByteArray) (d : Nat → Int) (w : World) (hl : In w la ln (fun k => .string (f k))) (hd : In w da dn (fun k => .int .u8 (d k)))
    (hd1 : ∀ k, 0 ≤ d k) (hd2 : ∀ k, d k ≤ 255) :
    Calls Try.prog 5 #[.agg #[.int .i64 b, .int .i64 s], .slice la ln lc, .slice da dn dc] w fun e w' => e = .returned (.bool true) ∧ Below w.heap.size w w' := by
  have HL := Lib.hid hl
  have HD := Lib.hid hd
  have HD1 := Lib.hid hd1
  have HD2 := Lib.hid hd2
  clear hl hd hd1 hd2
  have hA00 := (All.start w).newBkA w.heap.size rfl [.int .i64 b, .int .i64 s] 23
  by_cases hn : ln ≤ 100
  · have hnb : decide ((100 : Int) < (ln : Int)) = false := by simp; omega
    by_cases hm : dn ≤ 100
    · have hmb : decide ((100 : Int) < (dn : Int)) = false := by simp; omega
      go_enter Try.func5, Try.ntmps5
      go_wp2_with (go_at_call 11; refine (awake_any _).mono ?_; rintro e w1 ⟨rfl, hb1⟩; (obtain ⟨hc1, hf1⟩ := bcell hb1))
      have hA1 := hA00.still hb1
      clear hA00 hb1 hc1 hf1
      have x0 := fun x => some_bk (B := w.heap.size) (w0 := w) (l := fun _ => [bk w.heap.size [.int .i64 b, .int .i64 s] 23]) (g := w.heap.size) (fun _ => List.Mem.head _) x 0
      have x1 := fun x => some_bk (B := w.heap.size) (w0 := w) (l := fun _ => [bk w.heap.size [.int .i64 b, .int .i64 s] 23]) (g := w.heap.size) (fun _ => List.Mem.head _) x 1
      simp at x0 x1
      have hne : Nonempty (InS (SomeAll w.heap.size w (fun _ => [bk w.heap.size [.int .i64 b, .int .i64 s] 23]))) := ⟨⟨_, 0, [], hA1⟩⟩
      refine reg_all w.heap.size w (fun _ => [bk w.heap.size [.int .i64 b, .int .i64 s] 23]) (fun _ => .agg #[.int .i64 b, .int .i64 s, .slice none 0 0, .slice none 0 0, .int .i64 0]) (fun _ g => .pointer (some ⟨g, 0, none⟩)) (fun _ => [.int .i64 0, .int .i64 0, .slice none 0 0, .slice none 0 0, .int .i64 0]) (fun i => if i = 6 then 32 else if i = 7 then 41 else 45) 9 (by kernel_rfl) (by kernel_rfl) hA1 ?_
      clear hA1
      simp only [List.take_succ_cons, List.take_zero, List.drop_succ_cons, List.drop_zero]
      repeat (first
        | (refine m_held (by rfl) (by rfl) (fun K hK => ?_); go_big_quiet_step (fail); refine wpQuiet_nil ?_; refine hK.out _ ?_; clear hK K)
        | (refine m_skip (by rfl) ?_; simp only [Act.put, List.setIfInBounds_toArray, List.set_cons_zero, List.set_cons_succ]))
      refine m_call (.agg #[.int .i64 b, .int .i64 s, .slice none 0 0, .slice none 0 0, .int .i64 0]) rfl (by rfl) (by rfl) (fun w => by go_simp; exact ⟨rfl, rfl⟩) ?_ ?_
      · intro X w2 h2
        refine (new_any b s w2).mono ?_
        rintro e w3 ⟨rfl, hb⟩
        exact ⟨rfl, All.still h2 hb⟩
      simp only [Act.put, List.setIfInBounds_toArray, List.set_cons_zero, List.set_cons_succ]
      repeat (first
        | (refine m_held (by rfl) (by rfl) (fun K hK => ?_); go_big_quiet_step (fail); refine wpQuiet_nil ?_; refine hK.out _ ?_; clear hK K)
        | (refine m_skip (by rfl) ?_; simp only [Act.put, List.setIfInBounds_toArray, List.set_cons_zero, List.set_cons_succ]))
      refine m_call (.agg #[.int .i64 b, .int .i64 s, .slice none 0 0, .slice none 0 0, .int .i64 0]) rfl (by rfl) (by rfl) (fun w => by go_simp; exact ⟨rfl, rfl⟩) ?_ ?_
      · intro X w2 h2
        refine (newS b s w2).mono ?_
        rintro e w3 ⟨rfl, hb⟩
        exact ⟨rfl, All.still h2 hb⟩
      simp only [Act.put, List.setIfInBounds_toArray, List.set_cons_zero, List.set_cons_succ]
      repeat (first
        | (refine m_held (by rfl) (by rfl) (fun K hK => ?_); go_big_quiet_step (fail); refine wpQuiet_nil ?_; refine hK.out _ ?_; clear hK K)
        | (refine m_skip (by rfl) ?_; simp only [Act.put, List.setIfInBounds_toArray, List.set_cons_zero, List.set_cons_succ]))
      refine m_call (.agg #[.int .i64 b, .int .i64 s, .slice none 0 0, .slice none 0 0, .int .i64 0]) rfl (by rfl) (by rfl) (fun w => by go_simp; exact ⟨rfl, rfl⟩) ?_ ?_
      · intro X w2 h2
        refine (newP b s w2).mono ?_
        rintro e w3 ⟨rfl, hb⟩
        exact ⟨rfl, All.still h2 hb⟩
      simp only [Act.put, List.setIfInBounds_toArray, List.set_cons_zero, List.set_cons_succ]
      refine m_made (fun g => .pointer (some ⟨g, 0, none⟩)) [.int .i64 0, .int .i64 0, .slice none 0 0, .slice none 0 0, .int .i64 0] 32 rfl rfl rfl (by rfl) (by rfl) (fun w => by go_simp) ?_
      intro g1
      simp only [Act.put, List.setIfInBounds_toArray, List.set_cons_zero, List.set_cons_succ]
      refine m_made (fun g => .pointer (some ⟨g, 0, none⟩)) [.int .i64 0, .int .i64 0, .slice none 0 0, .slice none 0 0, .int .i64 0] 41 rfl rfl rfl (by rfl) (by rfl) (fun w => by go_simp) ?_
      intro g2
      simp only [Act.put, List.setIfInBounds_toArray, List.set_cons_zero, List.set_cons_succ]
      refine m_made (fun g => .pointer (some ⟨g, 0, none⟩)) [.int .i64 0, .int .i64 0, .slice none 0 0, .slice none 0 0, .int .i64 0] 45 rfl rfl rfl (by rfl) (by rfl) (fun w => by go_simp) ?_
      intro g3
      simp only [Act.put, List.setIfInBounds_toArray, List.set_cons_zero, List.set_cons_succ]
      refine m_nil ?_
      intro w2 hA2
      simp only [List.cons_append, List.nil_append] at hA2
      have n12 := bk_ne hA2 2 1 (by decide) rfl rfl
      have n13 := bk_ne hA2 2 0 (by decide) rfl rfl
      have n23 := bk_ne hA2 1 0 (by decide) rfl rfl
      have n21 := Ne.symm n12
      have n31 := Ne.symm n13
      have n32 := Ne.symm n23
      have k3 : Blk _ _ _ _ := hA2.head
      have k2 : Blk _ _ _ _ := hA2.tail.head
      have k1 : Blk _ _ _ _ := hA2.tail.tail.head
      have c10 := k1.cell 0
      have c11 := k1.cell 1
      have c12 := k1.cell 2
      have c13 := k1.cell 3
      have c14 := k1.cell 4
      have f1 := k1.free
      have c20 := k2.cell 0
      have c21 := k2.cell 1
      have c22 := k2.cell 2
      have c23 := k2.cell 3
      have c24 := k2.cell 4
      have f2 := k2.free
      have c30 := k3.cell 0
      have c31 := k3.cell 1
      have c32 := k3.cell 2
      have c33 := k3.cell 3
      have c34 := k3.cell 4
      have f3 := k3.free
      simp at c10 c11 c12 c13 c14 c20 c21 c22 c23 c24 c30 c31 c32 c33 c34
      have hA3 := (((((((((((((((hA2.setBk [_, _] 0 (.int .i64 b)).setBk [_, _] 1 (.int .i64 s)).setBk [_, _] 2 (.slice none 0 0)).setBk [_, _] 3 (.slice none 0 0)).setBk [_, _] 4 (.int .i64 0)).setBk [_] 0 (.int .i64 b)).setBk [_] 1 (.int .i64 s)).setBk [_] 2 (.slice none 0 0)).setBk [_] 3 (.slice none 0 0)).setBk [_] 4 (.int .i64 0)).setBk [] 0 (.int .i64 b)).setBk [] 1 (.int .i64 s)).setBk [] 2 (.slice none 0 0)).setBk [] 3 (.slice none 0 0)).setBk [] 4 (.int .i64 0))
      have hA4 := kd_new f (hA3.sel [2, 1, 0, 3] (by decide))
      clear k1 k2 k3 x0 x1 hne hA3 hA2
      go_upto_region 4 with (fail)
      generalize (((((((((((((((w2.setCell ⟨g1, 0, none⟩ (.int .i64 b)).setCell ⟨g1, 1, none⟩ (.int .i64 s)).setCell ⟨g1, 2, none⟩ (.slice none 0 0)).setCell ⟨g1, 3, none⟩ (.slice none 0 0)).setCell ⟨g1, 4, none⟩ (.int .i64 0)).setCell ⟨g2, 0, none⟩ (.int .i64 b)).setCell ⟨g2, 1, none⟩ (.int .i64 s)).setCell ⟨g2, 2, none⟩ (.slice none 0 0)).setCell ⟨g2, 3, none⟩ (.slice none 0 0)).setCell ⟨g2, 4, none⟩ (.int .i64 0)).setCell ⟨g3, 0, none⟩ (.int .i64 b)).setCell ⟨g3, 1, none⟩ (.int .i64 s)).setCell ⟨g3, 2, none⟩ (.slice none 0 0)).setCell ⟨g3, 3, none⟩ (.slice none 0 0)).setCell ⟨g3, 4, none⟩ (.int .i64 0)) = W at hA4 ⊢
      clear c10 c11 c12 c13 c14 c20 c21 c22 c23 c24 c30 c31 c32 c33 c34 f1 f2 f3 n12 n13 n23 n21 n31 n32
      go_wp2_with fail
      go_loopw [10, 45] (fun gv iv wr => KdR1 w g1 g2 g3 b s f ln gv iv wr) (fun _ iv _ => ln - (intOf iv).toNat)
      case atStart => exact ⟨0, _, _, _, _, _, _, Nat.zero_le _, rfl, hA4⟩
      case round =>
        clear hA4
        obtain ⟨i, v1, v2, v3, v4, v5, v6, hi1, rfl, hA⟩ := hrel
        by_cases hlt : i < ln
        · obtain ⟨lb, lo, hla, hlb, _⟩ := HL.out (by omega)
          subst hla
          go_wp2_with fail
          refine (addI hA (by omega)).mono ?_
          rintro e w3 ⟨v1', v2', rfl, hA3⟩
          have q1 := str_cell HL.out hlt hA3
          have hB : All w.heap.size w (arS g2 (fN b s f ⟨#[]⟩ i) v3 v4 ++ (arI g1 (fN b s (fun j => (j : Int)) 0 (i + 1)) v1' v2' :: (arP g3 (fN b s (fun j => (f j, (j : Int))) (⟨#[]⟩, 0) i) v5 v6 ++ [gl u10 (hs b s i), bk w.heap.size [.int .i64 b, .int .i64 s] 23]))) w3 := hA3.sel [1, 2, 3, 0, 4, 5, 6, 7, 8] (by decide)
          clear hA hA3
          go_wp2_with fail
          refine (addS hB (by omega)).mono ?_
          rintro e w4 ⟨v3', rfl, hB2⟩
          have q2 := str_cell HL.out hlt hB2
          have hC : All w.heap.size w (arP g3 (fN b s (fun j => (f j, (j : Int))) (⟨#[]⟩, 0) i) v5 v6 ++ (arI g1 (fN b s (fun j => (j : Int)) 0 (i + 1)) v1' v2' :: (arS g2 (fN b s f ⟨#[]⟩ (i + 1)) v3' v4 ++ [gl u10 (hs b s i), bk w.heap.size [.int .i64 b, .int .i64 s] 23]))) w4 := hB2.sel [4, 5, 6, 3, 0, 1, 2, 7, 8] (by decide)
          clear hB hB2 q1
          go_wp2_with fail
          refine (addP hC (by omega)).mono ?_
          rintro e w5 ⟨v5', rfl, hC2⟩
          have hD : All w.heap.size w ([arI g1 (fN b s (fun j => (j : Int)) 0 (i + 1)) v1' v2'] ++ (arS g2 (fN b s f ⟨#[]⟩ (i + 1)) v3' v4 ++ (arP g3 (fN b s (fun j => (f j, (j : Int))) (⟨#[]⟩, 0) (i + 1)) v5' v6 ++ [gl u10 (hs b s i), bk w.heap.size [.int .i64 b, .int .i64 s] 23]))) w5 := hC2.sel [3, 4, 5, 6, 0, 1, 2, 7, 8] (by decide)
          clear hC hC2 q2
          go_wp2_with (at_builtin; refine wpList_append_gl [_, _, _, _, _, _, _] hD (hdl b s (i : Nat)) rfl _ _ rfl rfl rfl (by rw [hs_len]; omega) ?_; intro gv' w6 hA6)
          go_roundw
          case rel => exact ⟨i + 1, _, _, _, _, _, _, by omega, by go_num, by rw [hs_succ]; exact hA6⟩
          case measure => simp [intOf]; omega
        · have hil : i = ln := by omega
          subst hil
          clear hlt hi1
          obtain ⟨ln, rfl⟩ : ∃ ln, ln = i := ⟨_, rfl⟩
          have hG := fN_good b s (fun j => (j : Int)) 0 ln
          go_wp2_with fail
          go_loopw [75] (fun iv wr => KdR2 w g1 g2 g3 b s f ln dn u10 iv wr) (fun iv _ => dn - (intOf iv).toNat)
          case atStart => exact ⟨0, _, _, _, _, _, _, _, _, _, Nat.zero_le _, rfl, hG, hA⟩
          case round =>
            clear hA hG
            obtain ⟨i, D, free, live, v1, v2, v3, v4, v5, v6, hi1, rfl, hG, hA⟩ := hrel
            obtain ⟨l0, l1, l2⟩ := good_fX hG
            have HG := Lib.hid hG
            clear hG
            have hown : Own _ _ _ _ _ _ := hA.P (gl u10 (hs b s ln)) (by simp)
            obtain ⟨ga, gc, rfl⟩ := own_shape hown
            rw [hs_len] at hA hown ⊢
            by_cases hlt : i < dn
            · obtain ⟨db, dof, hda, hdb, _⟩ := HD.out (by omega)
              subst hda
              have q1 := str_cell HD.out hlt hA
              have hx1 := HD1.out i
              have hx2 := HD2.out i
              by_cases hz : ln = 0
              · subst hz
                clear hown
                go_wp2_with fail
                go_roundw
                case rel => exact ⟨i + 1, D, free, live, _, _, _, _, _, _, by omega, by go_num, HG.out, hA⟩
                case measure => simp [intOf]; omega
              · obtain ⟨gg, gc', he, _⟩ := own_some hown (by omega)
                simp only [Value.slice.injEq] at he
                obtain ⟨rfl, _, rfl⟩ := he
                have hy1 : 0 ≤ d i % (ln : Int) := Int.emod_nonneg _ (by omega)
                have hy2 : d i % (ln : Int) < (ln : Int) := Int.emod_lt_of_pos _ (by omega)
                obtain ⟨q, hq⟩ := Int.eq_ofNat_of_zero_le hy1
                have hql : q < ln := by omega
                have q2 := hown.cellAt q (by omega)
                rw [hs_get b s hql] at q2
                have A1 := drop_all [] hA (hdl b s (q : Nat)) (hdl_lo _ _ _) (hdl_hi _ _ _) (HG.out.fit (by rw [fX_len]; omega))
                rw [fX_has b s _ _ ln D free live q hql (by omega), fX_drop b s _ _ ln D free live q hql (by omega)] at A1
                have H1 := Lib.hid A1
                have G2 := HG.out.drop 0 (hdl b s (q : Nat))
                rw [fX_drop b s _ _ ln D free live q hql (by omega)] at G2
                have HG2 := Lib.hid G2
                clear G2
                clear hown A1 hA
                go_wp2_with fail
                refine H1.out.mono ?_
                rintro e w3 ⟨v1', v2', rfl, hA3⟩
                have hB : All w.heap.size w (arS g2 (fX b s f ⟨#[]⟩ ln D free live) v3 v4 ++ (arI g1 _ v1' v2' :: (arP g3 (fX b s (fun j => (f j, (j : Int))) (⟨#[]⟩, 0) ln D free live) v5 v6 ++ [gl (.slice (some ⟨gg, 0, none⟩) ln gc) (hs b s ln), bk w.heap.size [.int .i64 b, .int .i64 s] 23]))) w3 := hA3.sel [1, 2, 3, 0, 4, 5, 6, 7, 8] (by decide)
                have A2 := dropS hB (hdl b s (q : Nat)) (hdl_lo _ _ _) (hdl_hi _ _ _) (by rw [fX_len]; omega) (by show free.length < _; omega) (by show _ ≤ live; omega) (by show live ≤ _; omega)
                rw [fX_has b s _ _ ln D free live q hql (by omega), fX_drop b s _ _ ln D free live q hql (by omega)] at A2
                have H2 := Lib.hid A2
                clear hA3 hB A2 H1 q1 q2
                go_wp2_with fail
                refine H2.out.mono ?_
                rintro e w4 ⟨v4', rfl, hB2⟩
                have hC : All w.heap.size w (arP g3 (fX b s (fun j => (f j, (j : Int))) (⟨#[]⟩, 0) ln D free live) v5 v6 ++ (arI g1 _ v1' v2' :: (arS g2 (fX b s f ⟨#[]⟩ ln _ _ _) v3 v4' ++ [gl (.slice (some ⟨gg, 0, none⟩) ln gc) (hs b s ln), bk w.heap.size [.int .i64 b, .int .i64 s] 23]))) w4 := hB2.sel [4, 5, 6, 3, 0, 1, 2, 7, 8] (by decide)
                have A3 := dropP hC (hdl b s (q : Nat)) (hdl_lo _ _ _) (hdl_hi _ _ _) (by rw [fX_len]; omega) (by show free.length < _; omega) (by show _ ≤ live; omega) (by show live ≤ _; omega)
                rw [fX_has b s _ _ ln D free live q hql (by omega), fX_drop b s _ _ ln D free live q hql (by omega)] at A3
                have H3 := Lib.hid A3
                clear hB2 hC A3 H2
                generalize hDq : (if D q = true then D else dropD D q) = D' at *
                generalize (if D q = true then free else free ++ [q]) = free' at *
                generalize (if D q = true then live else live - 1) = live' at *
                clear hDq
                generalize D q = dq at *
                have HH := H3.out
                cases dq
                all_goals
                  go_wp2_with fail
                  refine H3.out.mono ?_
                  rintro e w5 ⟨v6', rfl, hC2⟩
                  go_wp2_with fail
                  go_roundw
                  case rel =>
                    refine ⟨i + 1, D', free', live', v1', v2', v3, v4', v5, v6', by omega, by go_num, ?_, ?_⟩
                    · exact HG2.out
                    · exact hC2.sel [3, 4, 5, 6, 0, 1, 2, 7, 8] (by decide)
                  case measure => simp [intOf]; omega
            · go_wp2_with fail
              go_loopw [107] (fun iv wr => KdR3 w g1 g2 g3 b s f ln D free live v1 v2 v3 v4 v5 v6 (.slice ga ln gc) iv wr) (fun iv _ => ln - (intOf iv).toNat)
              case atStart => exact ⟨0, Nat.zero_le _, rfl, hA⟩
              case round =>
                clear hA hlt hi1 hown
                obtain ⟨i, hi1, rfl, hA⟩ := hrel
                by_cases hlt : i < ln
                · obtain ⟨lb, lo, hla, hlb, _⟩ := HL.out (by omega)
                  subst hla
                  have hown : Own _ _ _ _ _ _ := hA.P (gl (.slice ga ln gc) (hs b s ln)) (by simp)
                  rw [hs_len] at hown
                  obtain ⟨gg, gc', he, _⟩ := own_some hown (by omega)
                  simp only [Value.slice.injEq] at he
                  obtain ⟨rfl, _, rfl⟩ := he
                  have q2 := hown.cellAt i (by omega)
                  rw [hs_get b s hlt] at q2
                  rcases Bool.eq_false_or_eq_true (D i) with hDi | hDi
                  · have A1 := get_all [] hA (hdl b s (i : Nat)) (hdl_lo _ _ _) (hdl_hi _ _ _) (HG.out.fit (by rw [fX_len]; omega))
                    rw [fX_has b s _ _ ln D free live i hlt (by omega), fX_getv b s _ _ ln D free live i hlt (by omega), hDi] at A1
                    simp only [if_true, Option.getD_none, Bool.not_true] at A1
                    have H1 := Lib.hid A1
                    have HDi := Lib.hid hDi
                    clear hown A1 hA hDi
                    go_wp2_with fail
                    refine H1.out.mono ?_
                    rintro e w3 ⟨rfl, hA3⟩
                    have hown : Own _ _ _ _ _ _ := hA3.P (gl (.slice (some ⟨gg, 0, none⟩) ln gc) (hs b s ln)) (by simp)
                    rw [hs_len] at hown
                    have q3 := hown.cellAt i (by omega)
                    rw [hs_get b s hlt] at q3
                    have hB : All w.heap.size w (arS g2 (fX b s f ⟨#[]⟩ ln D free live) v3 v4 ++ (arI g1 _ v1 v2 :: (arP g3 (fX b s (fun j => (f j, (j : Int))) (⟨#[]⟩, 0) ln D free live) v5 v6 ++ [gl (.slice (some ⟨gg, 0, none⟩) ln gc) (hs b s ln), bk w.heap.size [.int .i64 b, .int .i64 s] 23]))) w3 := hA3.sel [1, 2, 3, 0, 4, 5, 6, 7, 8] (by decide)
                    have A2 := getS hB (hdl b s (i : Nat)) (hdl_lo _ _ _) (hdl_hi _ _ _) (by rw [fX_len]; omega)
                    rw [fX_has b s _ _ ln D free live i hlt (by omega), fX_getv b s _ _ ln D free live i hlt (by omega), HDi.out] at A2
                    simp only [if_true, Option.getD_none, Bool.not_true] at A2
                    have H2 := Lib.hid A2
                    clear hown hB A2 H1 q2
                    go_wp2_with fail
                    refine H2.out.mono ?_
                    rintro e w4 ⟨rfl, hb4⟩
                    have hA4 := hA3.still hb4
                    have hown : Own _ _ _ _ _ _ := hA4.P (gl (.slice (some ⟨gg, 0, none⟩) ln gc) (hs b s ln)) (by simp)
                    rw [hs_len] at hown
                    have q4 := hown.cellAt i (by omega)
                    rw [hs_get b s hlt] at q4
                    have hC : All w.heap.size w (arP g3 (fX b s (fun j => (f j, (j : Int))) (⟨#[]⟩, 0) ln D free live) v5 v6 ++ (arI g1 _ v1 v2 :: (arS g2 (fX b s f ⟨#[]⟩ ln D free live) v3 v4 ++ [gl (.slice (some ⟨gg, 0, none⟩) ln gc) (hs b s ln), bk w.heap.size [.int .i64 b, .int .i64 s] 23]))) w4 := hA4.sel [4, 5, 6, 0, 1, 2, 3, 7, 8] (by decide)
                    have A3 := getP hC (hdl b s (i : Nat)) (hdl_lo _ _ _) (hdl_hi _ _ _) (by rw [fX_len]; omega)
                    rw [fX_has b s _ _ ln D free live i hlt (by omega), fX_getv b s _ _ ln D free live i hlt (by omega), HDi.out] at A3
                    simp only [if_true, Option.getD_none, Bool.not_true] at A3
                    have H3 := Lib.hid A3
                    clear hown hC A3 H2 hA3 hb4 q3
                    go_wp2_with fail
                    refine H3.out.mono ?_
                    rintro e w5 ⟨rfl, hb5⟩
                    have hA5 := hA4.still hb5
                    clear hA4 hb5 q4 H3
                    have hA6 := hA5.alloc (.cells #[.string ⟨#[]⟩, .int .i64 0] 48)
                    have bz := Blk.new w5 [.string ⟨#[]⟩, .int .i64 0] 48
                    have z0 := bz.free
                    have z1 := bz.cell 0
                    have z2 := bz.cell 1
                    go_wp2_with fail
                    go_quiet (fail)
                    go_wp2_with fail
                    go_roundw
                    case rel => exact ⟨i + 1, by omega, by go_num, hA6.drewN nq⟩
                    case measure => simp [intOf]; omega
                  · have A1 := get_all [] hA (hdl b s (i : Nat)) (hdl_lo _ _ _) (hdl_hi _ _ _) (HG.out.fit (by rw [fX_len]; omega))
                    rw [fX_has b s _ _ ln D free live i hlt (by omega), fX_getv b s _ _ ln D free live i hlt (by omega), hDi] at A1
                    simp only [Bool.false_eq_true, if_false, Option.getD_some, Bool.not_false] at A1
                    have H1 := Lib.hid A1
                    have HDi := Lib.hid hDi
                    clear hown A1 hA hDi
                    go_wp2_with fail
                    refine H1.out.mono ?_
                    rintro e w3 ⟨rfl, hA3⟩
                    have hown : Own _ _ _ _ _ _ := hA3.P (gl (.slice (some ⟨gg, 0, none⟩) ln gc) (hs b s ln)) (by simp)
                    rw [hs_len] at hown
                    have q3 := hown.cellAt i (by omega)
                    rw [hs_get b s hlt] at q3
                    have hB : All w.heap.size w (arS g2 (fX b s f ⟨#[]⟩ ln D free live) v3 v4 ++ (arI g1 _ v1 v2 :: (arP g3 (fX b s (fun j => (f j, (j : Int))) (⟨#[]⟩, 0) ln D free live) v5 v6 ++ [gl (.slice (some ⟨gg, 0, none⟩) ln gc) (hs b s ln), bk w.heap.size [.int .i64 b, .int .i64 s] 23]))) w3 := hA3.sel [1, 2, 3, 0, 4, 5, 6, 7, 8] (by decide)
                    have A2 := getS hB (hdl b s (i : Nat)) (hdl_lo _ _ _) (hdl_hi _ _ _) (by rw [fX_len]; omega)
                    rw [fX_has b s _ _ ln D free live i hlt (by omega), fX_getv b s _ _ ln D free live i hlt (by omega), HDi.out] at A2
                    simp only [Bool.false_eq_true, if_false, Option.getD_some, Bool.not_false] at A2
                    have H2 := Lib.hid A2
                    clear hown hB A2 H1 q2
                    go_wp2_with fail
                    refine H2.out.mono ?_
                    rintro e w4 ⟨rfl, hb4⟩
                    have hA4 := hA3.still hb4
                    have hown : Own _ _ _ _ _ _ := hA4.P (gl (.slice (some ⟨gg, 0, none⟩) ln gc) (hs b s ln)) (by simp)
                    rw [hs_len] at hown
                    have q4 := hown.cellAt i (by omega)
                    rw [hs_get b s hlt] at q4
                    have hC : All w.heap.size w (arP g3 (fX b s (fun j => (f j, (j : Int))) (⟨#[]⟩, 0) ln D free live) v5 v6 ++ (arI g1 _ v1 v2 :: (arS g2 (fX b s f ⟨#[]⟩ ln D free live) v3 v4 ++ [gl (.slice (some ⟨gg, 0, none⟩) ln gc) (hs b s ln), bk w.heap.size [.int .i64 b, .int .i64 s] 23]))) w4 := hA4.sel [4, 5, 6, 0, 1, 2, 3, 7, 8] (by decide)
                    have A3 := getP hC (hdl b s (i : Nat)) (hdl_lo _ _ _) (hdl_hi _ _ _) (by rw [fX_len]; omega)
                    rw [fX_has b s _ _ ln D free live i hlt (by omega), fX_getv b s _ _ ln D free live i hlt (by omega), HDi.out] at A3
                    simp only [Bool.false_eq_true, if_false, Option.getD_some, Bool.not_false] at A3
                    have H3 := Lib.hid A3
                    clear hown hC A3 H2 hA3 hb4 q3
                    go_wp2_with fail
                    refine H3.out.mono ?_
                    rintro e w5 ⟨rfl, hb5⟩
                    have hA5 := hA4.still hb5
                    clear hA4 hb5 q4 H3
                    have hA6 := hA5.alloc (.cells #[.string (f i), .int .i64 (i : Int)] 48)
                    have q5 := str_cell HL.out hlt hA6
                    go_wp2_with fail
                    go_quiet (fail)
                    go_wp2_with fail
                    go_roundw
                    case rel => exact ⟨i + 1, by omega, by go_num, hA6.drewN nq⟩
                    case measure => simp [intOf]; omega
                · have hA2 := zero_first wr hA
                  have H1 := Lib.hid (lenS hA2)
                  clear hA
                  go_wp2_with fail
                  refine H1.out.mono ?_
                  rintro e w3 ⟨rfl, rfl⟩
                  clear H1
                  have A2 := addS_grow (slots := []) hA2 ⟨#[120]⟩ (by simp) (by simp) (by simp)
                  rw [show hdl 0 0 (([] : List (Bool × ByteArray)).length : Nat) = 1 from rfl] at A2
                  have H2 := Lib.hid A2
                  clear hA2 A2
                  rw [show (newAr 0 0 : Ar ByteArray).live = 0 from rfl]
                  go_wp2_with fail
                  refine H2.out.mono ?_
                  rintro e w4 ⟨sv', rfl, hA4⟩
                  have H3 := Lib.hid (lenS hA4)
                  go_wp2_with fail
                  refine H3.out.mono ?_
                  rintro e w5 ⟨rfl, rfl⟩
                  go_wp2_with fail
                  go_ret
                  exact ⟨rfl, hA4.below⟩
    · have hmb : decide ((100 : Int) < (dn : Int)) = true := by simp; omega
      go_enter Try.func5, Try.ntmps5
      go_wp2_with fail
      refine (awake_any _).mono ?_
      rintro e w1 ⟨rfl, hb1⟩
      go_wp2_with fail
      refine (awake_any _).mono ?_
      rintro e w2 ⟨rfl, hb2⟩
      go_wp2_with fail
      go_ret
      exact ⟨rfl, ((hA00.still hb1).still hb2).below⟩
  · go_enter Try.func5, Try.ntmps5
    go_wp2_with fail
    refine (awake_any _).mono ?_
    rintro e w1 ⟨rfl, hb1⟩
    go_wp2_with fail
    refine (awake_any _).mono ?_
    rintro e w2 ⟨rfl, hb2⟩
    go_wp2_with fail
    go_ret
    exact ⟨rfl, ((hA00.still hb1).still hb2).below⟩
end Go.Proofs.Ytabmmampgmcibaa.W
