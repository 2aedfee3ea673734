/- ArenaSalts, the walk: for any two Salts and any list of at most 150 operations the law returns true and changes nothing. -/
import Derived.Test.YtabmmampgmcibaaSaltsA
import Derived.Test.YtabmmampgmcibaaReg
namespace Go.Proofs.Ytabmmampgmcibaa.W
open Go.RowKit
set_option linter.unusedVariables false

def SaR (w : World) (g1 g2 : Nat) (b1 s1 b2 s2 : Int) (n : Nat) (xv yv iv : Value) (wr : World) : Prop :=
  ∃ (i : Nat) (A : Ar Int) (js : List Nat) (sv1 fv1 sv2 fv2 : Value), i ≤ n ∧ iv = .int .i64 (i : Int) ∧ Good A ∧ A.slots.length ≤ i ∧ js.length ≤ i ∧ (∀ j ∈ js, j ≤ 1000) ∧
    All w.heap.size w [arI g1 (A.re b1 s1) sv1 fv1, arI g2 (A.re b2 s2) sv2 fv2, gl xv (hj b1 s1 js), gl yv (hj b2 s2 js)] wr

theorem new_exact (b s : Int) (w : World) :
    Calls Try.prog 18 #[.agg #[.int .i64 b, .int .i64 s]] w fun e w' => e = .returned (.agg #[.int .i64 b, .int .i64 s, .slice none 0 0, .slice none 0 0, .int .i64 0]) ∧
      w' = (w.alloc (.cells #[.int .i64 b, .int .i64 s] 23)).alloc (.cells #[.int .i64 b, .int .i64 s, .slice none 0 0, .slice none 0 0, .int .i64 0] 32) := by
  go_enter Try.func18, Try.ntmps18
  go_wp2
  exact bodyPost_ret (v := .agg #[.int .i64 b, .int .i64 s, .slice none 0 0, .slice none 0 0, .int .i64 0]) (by simp [results, Try.results18, go_sem]) rfl ⟨rfl, rfl⟩

/-- both arenas and both lists of handles -/
def SaS (w : World) (g1 g2 : Nat) (b1 s1 b2 s2 : Int) (js : List Nat) (xv yv : Value) (A1 A2 : Ar Int) (wr : World) : Prop :=
  ∃ sv1 fv1 sv2 fv2 : Value, All w.heap.size w [arI g1 (A1.re b1 s1) sv1 fv1, arI g2 (A2.re b2 s2) sv2 fv2, gl xv (hj b1 s1 js), gl yv (hj b2 s2 js)] wr
def SaU (w : World) (g1 g2 : Nat) (b1 s1 b2 s2 : Int) (js : List Nat) (xv yv : Value) (wr : World) : Prop := ∃ A1 A2, SaS w g1 g2 b1 s1 b2 s2 js xv yv A1 A2 wr
/-- none, the first, both have been turned -/
def SaK (w : World) (g1 g2 : Nat) (b1 s1 b2 s2 : Int) (js : List Nat) (xv yv : Value) (A A' : Ar Int) : Nat → World → Prop
  | 0 => SaS w g1 g2 b1 s1 b2 s2 js xv yv A A
  | 1 => SaS w g1 g2 b1 s1 b2 s2 js xv yv A' A
  | _ => SaS w g1 g2 b1 s1 b2 s2 js xv yv A' A'
theorem saK_U {w : World} {g1 g2 : Nat} {b1 s1 b2 s2 : Int} {js : List Nat} {xv yv : Value} {A A' : Ar Int} (k : Nat) (wr : World) (h : SaK w g1 g2 b1 s1 b2 s2 js xv yv A A' k wr) : SaU w g1 g2 b1 s1 b2 s2 js xv yv wr := by
  match k, h with
  | 0, h => exact ⟨_, _, h⟩
  | 1, h => exact ⟨_, _, h⟩
  | _ + 2, h => exact ⟨_, _, h⟩
theorem saU_cells {w wr : World} {g1 g2 : Nat} {b1 s1 b2 s2 : Int} {js : List Nat} {xg yg xc yc lb lo q j : Nat} {c : Value} {xv yv : Value} {A1 A2 : Ar Int}
    (h0 : SaS w g1 g2 b1 s1 b2 s2 js xv yv A1 A2 wr) (hlb : lb < w.heap.size) (c0 : wr.cell? ⟨lb, lo, none⟩ = some c) (hq : q < js.length) (hjq : js[q] = j)
    (x : InS (SaU w g1 g2 b1 s1 b2 s2 js (.slice (some ⟨xg, 0, none⟩) js.length xc) (.slice (some ⟨yg, 0, none⟩) js.length yc))) :
    x.w.cell? ⟨lb, lo, none⟩ = some c ∧ x.w.cell? ⟨xg, q, none⟩ = some (.int .i64 (hdl b1 s1 (j : Nat))) ∧ x.w.cell? ⟨yg, q, none⟩ = some (.int .i64 (hdl b2 s2 (j : Nat))) := by
  obtain ⟨_, _, _, _, _, _, h3⟩ := x.h
  obtain ⟨_, _, _, _, h⟩ := h0
  have hx : Own _ _ _ _ _ _ := h3.tail.tail.head
  have hy : Own _ _ _ _ _ _ := h3.tail.tail.tail.head
  rw [hj_len] at hx hy
  have cx := hx.cellAt q (by omega)
  have cy := hy.cellAt q (by omega)
  rw [hj_get b1 s1 js hq, hjq] at cx
  rw [hj_get b2 s2 js hq, hjq] at cy
  refine ⟨?_, cx, cy⟩
  rw [h3.below.cell (p := ⟨lb, lo, none⟩) hlb, ← h.below.cell (p := ⟨lb, lo, none⟩) hlb]
  exact c0
def SaE (w : World) (g1 g2 : Nat) (b1 s1 b2 s2 : Int) (A : Ar Int) (sv1 sv2 : Value) (iv : Value) (wr : World) : Prop :=
  ∃ (k : Nat) (fv1 fv2 : Value), k ≤ A.slots.length ∧ iv = .int .i64 (k : Int) ∧ All w.heap.size w [arI g1 (A.re b1 s1) sv1 fv1, arI g2 (A.re b2 s2) sv2 fv2] wr
def SaC (w : World) (g1 g2 : Nat) (b1 s1 b2 s2 : Int) (i : Nat) (js : List Nat) (xv yv : Value) (wr : World) : Prop :=
  ∃ (A : Ar Int) (sv1 fv1 sv2 fv2 : Value), Good A ∧ A.slots.length ≤ i ∧ All w.heap.size w [arI g1 (A.re b1 s1) sv1 fv1, arI g2 (A.re b2 s2) sv2 fv2, gl xv (hj b1 s1 js), gl yv (hj b2 s2 js)] wr
theorem next_le {A : Ar Int} (h : Good A) {js : List Nat} (hjs : ∀ j ∈ js, j ≤ 1000) (hn : A.slots.length ≤ 1000) : ∀ j ∈ js ++ [A.nextSlot], j ≤ 1000 := by
  intro j hj
  rcases List.mem_append.1 hj with hj | hj
  · exact hjs j hj
  · have := (next_slot h).1
    simp at hj
    omega
theorem four_of {B : Nat} {w0 w : World} {a b : Ob} (h : All B w0 [a, b] w) {b1 s1 b2 s2 : Int} : All B w0 [a, b, gl (.slice none 0 0) (hj b1 s1 []), gl (.slice none 0 0) (hj b2 s2 [])] w := by
  have F : ∀ (e : TypeId) (size : Nat) (k : Nat), ¬ (sl e size (.slice none 0 0) 0 []).F k := fun e size k h => by simp [sl, Value.ownBlock] at h
  have hp := h.apart
  simp only [List.pairwise_cons, List.mem_cons, List.not_mem_nil, or_false] at hp
  refine ⟨?_, ?_, ?_, h.below, h.le⟩
  · intro o ho
    simp only [List.mem_cons, List.not_mem_nil, or_false] at ho
    rcases ho with rfl | rfl | rfl | rfl
    · exact h.P _ (by simp)
    · exact h.P _ (by simp)
    · exact World.ownsRow_nil _ _ _ _
    · exact World.ownsRow_nil _ _ _ _
  · simp only [List.pairwise_cons, List.mem_cons, List.not_mem_nil, or_false]
    refine ⟨?_, ?_, ?_, fun a h => h.elim, List.Pairwise.nil⟩
    · rintro o (rfl | rfl | rfl)
      · exact hp.1 _ rfl
      · exact fun k _ hk => F _ _ _ hk
      · exact fun k _ hk => F _ _ _ hk
    · rintro o (rfl | rfl)
      · exact fun k _ hk => F _ _ _ hk
      · exact fun k _ hk => F _ _ _ hk
    · rintro o rfl
      exact fun k _ hk => F _ _ _ hk
  · intro o ho k hk
    simp only [List.mem_cons, List.not_mem_nil, or_false] at ho
    rcases ho with rfl | rfl | rfl | rfl
    · exact h.base _ (by simp) k hk
    · exact h.base _ (by simp) k hk
    · exact (F _ _ _ hk).elim
    · exact (F _ _ _ hk).elim

set_option maxRecDepth 100000 in
set_option maxHeartbeats 4000000 in
theorem salts_any (b1 s1 b2 s2 : Int) (la : Option Addr) (ln lc : Nat) (f : Nat → Int × Int × Bool × Int) (w : World) (hl : InOps w la ln f)
    (hf : ∀ k, 0 ≤ (f k).1 ∧ (f k).1 ≤ 255 ∧ 0 ≤ (f k).2.1 ∧ (f k).2.1 ≤ 255 ∧ -32768 ≤ (f k).2.2.2 ∧ (f k).2.2.2 ≤ 32767) :
    Calls Try.prog 8 #[.agg #[.int .i64 b1, .int .i64 s1], .agg #[.int .i64 b2, .int .i64 s2], .slice la ln lc] w fun e w' => e = .returned (.bool true) ∧ Below w.heap.size w w' := by
  have HL := Lib.hid hl
  have HF := Lib.hid hf
  clear hl hf
  have hA00 := ((All.start w).alloc (.cells #[.int .i64 b1, .int .i64 s1] 23)).alloc (.cells #[.int .i64 b2, .int .i64 s2] 23)
  by_cases hn : ln ≤ 150
  · have hnb : decide ((150 : Int) < (ln : Int)) = false := by simp; omega
    go_enter Try.func8, Try.ntmps8
    go_wp2_with (go_at_call 11; refine (awake_any _).mono ?_; rintro e w1 ⟨rfl, hb1⟩; (obtain ⟨hc1, hf1⟩ := bcell hb1))
    have hA1 := hA00.still hb1
    have k1 := (((Blk.new w [.int .i64 b1, .int .i64 s1] 23).alloc (.cells #[.int .i64 b2, .int .i64 s2] 23)).below hb1)
    have k2 := ((Blk.new (w.alloc (.cells #[.int .i64 b1, .int .i64 s1] 23)) [.int .i64 b2, .int .i64 s2] 23).below hb1)
    have p0 := k1.cell 0
    have p1 := k1.cell 1
    have q0 := k2.cell 0
    have q1 := k2.cell 1
    simp at p0 p1 q0 q1
    have lt1 := k1.lt
    have lt2 := k2.lt
    simp at lt1 lt2
    have ne1 := World.new_ne w1 ⟨w.heap.size, 0, none⟩ p0
    have ne2 := World.new_ne w1 ⟨w.heap.size + 1, 0, none⟩ q0
    have ne3 : ∀ k, w.heap.size ≠ w1.heap.size + k := fun k => by omega
    have ne4 : ∀ k, w.heap.size + 1 ≠ w1.heap.size + k := fun k => by omega
    clear k1 k2 hA00 hb1 hc1 hf1
    go_cut [7, 8] (fun s7 s8 wx => ∃ g1 g2 sv1 fv1 sv2 fv2, s7 = .pointer (some ⟨g1, 0, none⟩) ∧ s8 = .pointer (some ⟨g2, 0, none⟩) ∧ All w.heap.size w [arI g1 ((newAr 0 0).re b1 s1) sv1 fv1, arI g2 ((newAr 0 0).re b2 s2) sv2 fv2] wx)
    case first =>
      go_region_held3 (fun w' => w'.cell? ⟨w.heap.size, 0, none⟩ = some (.int .i64 b1) ∧ w'.cell? ⟨w.heap.size, 1, none⟩ = some (.int .i64 s1) ∧ w'.cell? ⟨w.heap.size + 1, 0, none⟩ = some (.int .i64 b2) ∧ w'.cell? ⟨w.heap.size + 1, 1, none⟩ = some (.int .i64 s2))
        (refine ⟨?_, ?_, ?_, ?_⟩ <;> ((try simp only [World.cell?_drew]); (repeat rw [World.cell?_alloc_lt _ _ _ (by first | omega | (simp <;> omega))]); assumption))
        (first
          | (go_at_call 18; refine (new_exact _ _ _).mono ?_; rintro e w2 ⟨rfl, rfl⟩))
      all_goals
        go_wp2_with fail
        go_meet
        refine ⟨_, _, _, _, _, _, rfl, rfl, two_new hA1 ?_ ?_ ?_ ?_ ?_ ?_⟩
        · exact by repeat (first | exact Below.refl _ _ | refine Below.drew ?_ | refine Below.alloc ?_ (by first | exact Nat.le_refl _ | (simp <;> omega)) _)
        · repeat (first | (refine blk_at ?_; (simp; done)) | refine blk_drew ?_ | refine Blk.alloc ?_ _)
        · repeat (first | (refine blk_at ?_; (simp; done)) | refine blk_drew ?_ | refine Blk.alloc ?_ _)
        · omega
        · omega
        · omega
    case rest =>
      clear p0 p1 q0 q1 lt1 lt2 ne1 ne2 ne3 ne4 hA1
      obtain ⟨g1, g2, sv1, fv1, sv2, fv2, rfl, rfl, hA2⟩ := hcut
      have hA4 : All w.heap.size w [arI g1 ((newAr 0 0).re b1 s1) sv1 fv1, arI g2 ((newAr 0 0).re b2 s2) sv2 fv2, gl (.slice none 0 0) (hj b1 s1 []), gl (.slice none 0 0) (hj b2 s2 [])] _ := four_of hA2
      clear hA2
      go_wp2_with fail
      go_loopw [9, 10, 33] (fun xv yv iv wr => SaR w g1 g2 b1 s1 b2 s2 ln xv yv iv wr) (fun _ _ iv _ => ln - (intOf iv).toNat)
      case atStart => exact ⟨0, newAr 0 0, [], _, _, _, _, Nat.zero_le _, rfl, good_new 0 0, Nat.le_refl _, Nat.le_refl _, by simp, hA4⟩
      case round =>
        clear hA4
        obtain ⟨i, A, js, sv1, fv1, sv2, fv2, hi1, rfl, hG, hAl, hjl, hjs, hA⟩ := hrel
        have HG := Lib.hid hG
        have HJS := Lib.hid hjs
        clear hG hjs
        by_cases hlt : i < ln
        · obtain ⟨lb, lo, hla, hlb, _⟩ := HL.out (by omega)
          obtain ⟨lb', lo', hla', _, hcs⟩ := (HL.out.still hA.below) (by omega)
          obtain ⟨rfl, rfl⟩ : lb = lb' ∧ lo = lo' := by rw [hla] at hla'; simpa using hla'
          clear hla'
          subst hla
          obtain ⟨c0, c1, _, c3⟩ := hcs i hlt
          obtain ⟨f1, f2, f3, f4, f5, f6⟩ := HF.out i
          clear hcs
          generalize (f i).1 = kd at *
          generalize (f i).2.1 = pk at *
          generalize (f i).2.2.2 = v at *
          have hx : Own _ _ _ _ _ _ := hA.tail.tail.head
          have hy : Own _ _ _ _ _ _ := hA.tail.tail.tail.head
          obtain ⟨xa, xc, rfl⟩ := own_shape hx
          obtain ⟨ya, yc, rfl⟩ := own_shape hy
          by_cases hadd : kd % 5 < 2 ∨ js.length = 0
          · clear hx hy
            rw [hj_len, hj_len] at hA ⊢
            have hb : decide (kd % 5 < 2) = true ∨ (decide (kd % 5 < 2) = false ∧ js.length = 0) := by
              by_cases h2 : kd % 5 < 2
              · exact .inl (by simpa using h2)
              · exact .inr ⟨by simpa using h2, by omega⟩
            rcases hb with hb | ⟨hb, hb0⟩
            · go_wp2_with fail
              refine (radd [] hA v HG.out (by omega)).mono ?_
              rintro e w3 ⟨sv1', fv1', rfl, hA3⟩
              clear hA c0 c1 c3
              go_wp2_with (at_builtin; refine wpList_append_gl [_, _] hA3 (hdl b1 s1 (A.nextSlot : Nat)) rfl _ _ rfl rfl rfl (by rw [hj_len]; omega) ?_; intro xv' w4 hA4)
              refine (radd [_] hA4 v HG.out (by omega)).mono ?_
              rintro e w5 ⟨sv2', fv2', rfl, hA5⟩
              clear hA3 hA4
              go_wp2_with (at_builtin; refine wpList_append_gl [_, _, _] hA5 (hdl b2 s2 (A.nextSlot : Nat)) rfl _ _ rfl rfl rfl (by rw [hj_len]; omega) ?_; intro yv' w6 hA6)
              go_roundw
              case rel => exact ⟨i + 1, A.add v, js ++ [A.nextSlot], _, _, _, _, by omega, by go_num, HG.out.add v, by have := add_len A v; omega, by simp; omega, next_le HG.out HJS.out (by omega), by rw [hj_snoc, hj_snoc]; exact hA6⟩
              case measure => simp [intOf]; omega
            · obtain rfl : js = [] := List.length_eq_zero_iff.1 hb0
              clear hb0
              simp only [List.length_nil] at hA ⊢
              go_wp2_with fail
              refine (radd [] hA v HG.out (by omega)).mono ?_
              rintro e w3 ⟨sv1', fv1', rfl, hA3⟩
              clear hA c0 c1 c3
              go_wp2_with (at_builtin; refine wpList_append_gl [_, _] hA3 (hdl b1 s1 (A.nextSlot : Nat)) rfl _ _ rfl rfl rfl (by rw [hj_len]; omega) ?_; intro xv' w4 hA4)
              refine (radd [_] hA4 v HG.out (by omega)).mono ?_
              rintro e w5 ⟨sv2', fv2', rfl, hA5⟩
              clear hA3 hA4
              go_wp2_with (at_builtin; refine wpList_append_gl [_, _, _] hA5 (hdl b2 s2 (A.nextSlot : Nat)) rfl _ _ rfl rfl rfl (by rw [hj_len]; omega) ?_; intro yv' w6 hA6)
              go_roundw
              case rel => exact ⟨i + 1, A.add v, [] ++ [A.nextSlot], _, _, _, _, by omega, by go_num, HG.out.add v, by have := add_len A v; omega, by simp, next_le HG.out HJS.out (by omega), by rw [hj_snoc, hj_snoc]; exact hA6⟩
              case measure => simp [intOf]; omega
          · have n1 : decide (kd % 5 < 2) = false := by simp; omega
            have hpos : 0 < js.length := by omega
            rw [hj_len] at hx hy
            rw [hj_len, hj_len] at hA ⊢
            obtain ⟨xg, xc', hex, _⟩ := own_some hx hpos
            obtain ⟨yg, yc', hey, _⟩ := own_some hy hpos
            simp only [Value.slice.injEq] at hex hey
            obtain ⟨rfl, _, rfl⟩ := hex
            obtain ⟨rfl, _, rfl⟩ := hey
            have z1 : 0 ≤ pk % (js.length : Int) := Int.emod_nonneg _ (by omega)
            have z2 : pk % (js.length : Int) < (js.length : Int) := Int.emod_lt_of_pos _ (by omega)
            obtain ⟨q, hq⟩ := Int.eq_ofNat_of_zero_le z1
            have hql : q < js.length := by omega
            have cx := hx.cellAt q (by omega)
            have cy := hy.cellAt q (by omega)
            rw [hj_get b1 s1 js hql] at cx
            rw [hj_get b2 s2 js hql] at cy
            have hj1 : js[q] ≤ 1000 := HJS.out _ (List.getElem_mem hql)
            have lx := own_lt hx (k := xg) rfl
            have ly := own_lt hy (k := yg) rfl
            obtain ⟨j, hjq⟩ : ∃ j, js[q] = j := ⟨_, rfl⟩
            rw [hjq] at cx cy hj1
            have HJ := Lib.hid hjq
            clear hadd hx hy z1 z2 hjq
            go_upto_region 13 with fail
            go_cut [116] (fun v wx => v = .bool false ∧ SaC w g1 g2 b1 s1 b2 s2 i js (.slice (some ⟨xg, 0, none⟩) js.length xc) (.slice (some ⟨yg, 0, none⟩) js.length yc) wx)
            case first =>
              have hx0 := fun x => (saU_cells (xg := xg) (yg := yg) (xc := xc) (yc := yc) ⟨_, _, _, _, hA⟩ hlb c0 hql HJ.out x).1
              have hx1 := fun x => (saU_cells (xg := xg) (yg := yg) (xc := xc) (yc := yc) ⟨_, _, _, _, hA⟩ hlb c0 hql HJ.out x).2.1
              have hx2 := fun x => (saU_cells (xg := xg) (yg := yg) (xc := xc) (yc := yc) ⟨_, _, _, _, hA⟩ hlb c0 hql HJ.out x).2.2
              by_cases h2 : kd % 5 = 2
              · have e2 : (kd % 5 == 2) = true := by simpa using h2
                have e3 : (kd % 5 == 3) = false := by simp; omega
                clear h2
                have hne : Nonempty (InS (SaU w g1 g2 b1 s1 b2 s2 js (.slice (some ⟨xg, 0, none⟩) js.length xc) (.slice (some ⟨yg, 0, none⟩) js.length yc))) := ⟨⟨_, _, _, _, _, _, _, hA⟩⟩
                refine reg_st (SaU w g1 g2 b1 s1 b2 s2 js (.slice (some ⟨xg, 0, none⟩) js.length xc) (.slice (some ⟨yg, 0, none⟩) js.length yc)) (SaK w g1 g2 b1 s1 b2 s2 js (.slice (some ⟨xg, 0, none⟩) js.length xc) (.slice (some ⟨yg, 0, none⟩) js.length yc) A (A.setS j v)) (by kernel_rfl) (by kernel_rfl) (by kernel_rfl) saK_U ⟨_, _, _, _, hA.drew⟩ ?_
                repeat (first
                  | (refine st_held (by rfl) (fun K hK => ?_); go_big_quiet_step (fail); refine wpQuiet_nil ?_; refine hK.out _ ?_; clear hK K)
                  | (refine st_skip (by rfl) ?_; simp only [Act.put, List.setIfInBounds_toArray, List.set_cons_zero, List.set_cons_succ]))
                refine st_call (.bool (A.ok j)) (by rfl) (by rfl) (fun w => by go_simp; exact ⟨rfl, rfl⟩) ?_ ?_
                · rintro w1 ⟨_, _, _, _, h1⟩
                  refine (rset [] h1 j v (by omega) HG.out (by omega)).mono ?_
                  rintro e w2 ⟨_, _, rfl, h2⟩
                  exact ⟨rfl, _, _, _, _, h2⟩
                simp only [Act.put, List.setIfInBounds_toArray, List.set_cons_zero, List.set_cons_succ]
                repeat (first
                  | (refine st_held (by rfl) (fun K hK => ?_); go_big_quiet_step (fail); refine wpQuiet_nil ?_; refine hK.out _ ?_; clear hK K)
                  | (refine st_skip (by rfl) ?_; simp only [Act.put, List.setIfInBounds_toArray, List.set_cons_zero, List.set_cons_succ]))
                refine st_call (.bool (A.ok j)) (by rfl) (by rfl) (fun w => by go_simp; exact ⟨rfl, rfl⟩) ?_ ?_
                · rintro w1 ⟨_, _, _, _, h1⟩
                  refine (rset [_] h1 j v (by omega) HG.out (by omega)).mono ?_
                  rintro e w2 ⟨_, _, rfl, h2⟩
                  exact ⟨rfl, _, _, _, _, h2⟩
                simp only [Act.put, List.setIfInBounds_toArray, List.set_cons_zero, List.set_cons_succ]
                repeat (first
                  | (refine st_held (by rfl) (fun K hK => ?_); go_big_quiet_step (fail); refine wpQuiet_nil ?_; refine hK.out _ ?_; clear hK K)
                  | (refine st_skip (by rfl) ?_; simp only [Act.put, List.setIfInBounds_toArray, List.set_cons_zero, List.set_cons_succ]))
                refine st_nil ?_
                rintro w1 ⟨_, _, _, _, h1⟩
                go_wp2_with fail
                go_meet
                exact ⟨rfl, A.setS j v, _, _, _, _, HG.out.setS j v, by rw [setS_len]; exact hAl, h1⟩
              · by_cases h3 : kd % 5 = 3
                · have e3 : (kd % 5 == 3) = true := by simpa using h3
                  have e2 : (kd % 5 == 2) = false := by simp; omega
                  clear h2 h3
                  have hne : Nonempty (InS (SaU w g1 g2 b1 s1 b2 s2 js (.slice (some ⟨xg, 0, none⟩) js.length xc) (.slice (some ⟨yg, 0, none⟩) js.length yc))) := ⟨⟨_, _, _, _, _, _, _, hA⟩⟩
                  refine reg_st (SaU w g1 g2 b1 s1 b2 s2 js (.slice (some ⟨xg, 0, none⟩) js.length xc) (.slice (some ⟨yg, 0, none⟩) js.length yc)) (SaK w g1 g2 b1 s1 b2 s2 js (.slice (some ⟨xg, 0, none⟩) js.length xc) (.slice (some ⟨yg, 0, none⟩) js.length yc) A (A.dropS 0 j)) (by kernel_rfl) (by kernel_rfl) (by kernel_rfl) saK_U ⟨_, _, _, _, hA.drew⟩ ?_
                  repeat (first
                    | (refine st_held (by rfl) (fun K hK => ?_); go_big_quiet_step (fail); refine wpQuiet_nil ?_; refine hK.out _ ?_; clear hK K)
                    | (refine st_skip (by rfl) ?_; simp only [Act.put, List.setIfInBounds_toArray, List.set_cons_zero, List.set_cons_succ]))
                  refine st_call (.bool (A.ok j)) (by rfl) (by rfl) (fun w => by go_simp; exact ⟨rfl, rfl⟩) ?_ ?_
                  · rintro w1 ⟨_, _, _, _, h1⟩
                    refine (rdrop [] h1 j (by omega) HG.out (by omega)).mono ?_
                    rintro e w2 ⟨_, _, rfl, h2⟩
                    exact ⟨rfl, _, _, _, _, h2⟩
                  simp only [Act.put, List.setIfInBounds_toArray, List.set_cons_zero, List.set_cons_succ]
                  repeat (first
                    | (refine st_held (by rfl) (fun K hK => ?_); go_big_quiet_step (fail); refine wpQuiet_nil ?_; refine hK.out _ ?_; clear hK K)
                    | (refine st_skip (by rfl) ?_; simp only [Act.put, List.setIfInBounds_toArray, List.set_cons_zero, List.set_cons_succ]))
                  refine st_call (.bool (A.ok j)) (by rfl) (by rfl) (fun w => by go_simp; exact ⟨rfl, rfl⟩) ?_ ?_
                  · rintro w1 ⟨_, _, _, _, h1⟩
                    refine (rdrop [_] h1 j (by omega) HG.out (by omega)).mono ?_
                    rintro e w2 ⟨_, _, rfl, h2⟩
                    exact ⟨rfl, _, _, _, _, h2⟩
                  simp only [Act.put, List.setIfInBounds_toArray, List.set_cons_zero, List.set_cons_succ]
                  repeat (first
                    | (refine st_held (by rfl) (fun K hK => ?_); go_big_quiet_step (fail); refine wpQuiet_nil ?_; refine hK.out _ ?_; clear hK K)
                    | (refine st_skip (by rfl) ?_; simp only [Act.put, List.setIfInBounds_toArray, List.set_cons_zero, List.set_cons_succ]))
                  refine st_nil ?_
                  rintro w1 ⟨_, _, _, _, h1⟩
                  go_wp2_with fail
                  go_meet
                  exact ⟨rfl, A.dropS 0 j, _, _, _, _, HG.out.dropS 0 j, by rw [dropS_len]; exact hAl, h1⟩
                · have e2 : (kd % 5 == 2) = false := by simpa using h2
                  have e3 : (kd % 5 == 3) = false := by simpa using h3
                  clear h2 h3
                  go_quiet (fail)
                  go_wp2_with fail
                  go_meet
                  exact ⟨rfl, A, _, _, _, _, HG.out, hAl, hA.drewN nq⟩
            case rest =>
              clear hA c0 c1 c3 cx cy lx ly hAl HG
              obtain ⟨rfl, A, sv1, fv1, sv2, fv2, hG, hAl, hA⟩ := hcut
              have HG := Lib.hid hG
              clear hG
              have hx : Own _ _ _ _ _ _ := hA.tail.tail.head
              rw [hj_len] at hx
              have cx := hx.cellAt q (by omega)
              rw [hj_get b1 s1 js hql, HJ.out] at cx
              clear hx
              go_wp2_with fail
              refine (rget [] hA j (by omega) HG.out (by omega)).mono ?_
              rintro e w3 ⟨rfl, hA3⟩
              clear hA cx
              have hy : Own _ _ _ _ _ _ := hA3.tail.tail.tail.head
              rw [hj_len] at hy
              have cy := hy.cellAt q (by omega)
              rw [hj_get b2 s2 js hql, HJ.out] at cy
              clear hy
              go_wp2_with fail
              refine (rget [_] hA3 j (by omega) HG.out (by omega)).mono ?_
              rintro e w4 ⟨rfl, hA4⟩
              clear hA3 cy
              go_wp2_with fail
              go_roundw
              case rel => exact ⟨i + 1, A, js, _, _, _, _, by omega, by go_num, HG.out, by omega, by omega, HJS.out, hA4⟩
              case measure => simp [intOf]; omega
        · have h1 : AtI _ _ _ _ _ := hA.head
          have h2 : AtI _ _ _ _ _ := hA.tail.head
          obtain ⟨sa1, sc1, rfl⟩ := own_shape h1.slots
          obtain ⟨sa2, sc2, rfl⟩ := own_shape h2.slots
          have p2 := h1.blk.cell 2
          have q2 := h2.blk.cell 2
          simp at p2 q2
          rw [show (A.re b1 s1).slots.length = A.slots.length from rfl] at p2
          rw [show (A.re b2 s2).slots.length = A.slots.length from rfl] at q2
          have L1 := Lib.hid (len_any h1)
          have L2 := Lib.hid (len_any h2)
          clear h1 h2
          go_wp2_with fail
          refine L1.out.mono ?_
          rintro e w3 ⟨rfl, rfl⟩
          go_wp2_with fail
          refine L2.out.mono ?_
          rintro e w4 ⟨rfl, rfl⟩
          rw [show (A.re b1 s1).live = A.live from rfl, show (A.re b2 s2).live = A.live from rfl]
          go_wp2_with fail
          clear L1 L2
          go_loopw [157] (fun iv wr => SaE w g1 g2 b1 s1 b2 s2 A (.slice sa1 A.slots.length sc1) (.slice sa2 A.slots.length sc2) iv wr) (fun iv _ => A.slots.length - (intOf iv).toNat)
          case atStart => exact ⟨0, _, _, Nat.zero_le _, rfl, hA.sub (List.Sublist.cons_cons _ (List.Sublist.cons_cons _ (List.nil_sublist _)))⟩
          case round =>
            clear p2 q2 hA
            obtain ⟨k, fv1, fv2, hk1, rfl, hA⟩ := hrel
            have h1 : AtI _ _ _ _ _ := hA.head
            have h2 : AtI _ _ _ _ _ := hA.tail.head
            have p2 := h1.blk.cell 2
            have q2 := h2.blk.cell 2
            simp at p2 q2
            by_cases hkl : k < A.slots.length
            · obtain ⟨sg1, sc1', he1, _⟩ := own_some h1.slots (by show 0 < A.slots.length; omega)
              obtain ⟨sg2, sc2', he2, _⟩ := own_some h2.slots (by show 0 < A.slots.length; omega)
              simp only [Value.slice.injEq] at he1 he2
              obtain ⟨rfl, _, rfl⟩ := he1
              obtain ⟨rfl, _, rfl⟩ := he2
              obtain ⟨x, hx⟩ : ∃ x, A.slots[k]? = some x := ⟨_, List.getElem?_eq_getElem hkl⟩
              obtain ⟨xu, xv⟩ := x
              obtain ⟨t0, t1⟩ := scells_used _ _ _ _ hx
              have u1 := h1.slots.cellAt (k * 2) (by show k * 2 < A.slots.length * 2; omega)
              have u2 := h1.slots.cellAt (k * 2 + 1) (by show k * 2 + 1 < A.slots.length * 2; omega)
              have u3 := h2.slots.cellAt (k * 2) (by show k * 2 < A.slots.length * 2; omega)
              have u4 := h2.slots.cellAt (k * 2 + 1) (by show k * 2 + 1 < A.slots.length * 2; omega)
              rw [show (A.re b1 s1).slots = A.slots from rfl] at u1 u2
              rw [show (A.re b2 s2).slots = A.slots from rfl] at u3 u4
              rw [t0] at u1 u3
              rw [t1] at u2 u4
              clear h1 h2 t0 t1 hx
              go_wp2_with fail
              go_quiet (fail)
              go_wp2_with fail
              go_roundw
              case rel => exact ⟨k + 1, fv1, fv2, by omega, by go_num, hA.drewN nq⟩
              case measure => simp [intOf]; omega
            · clear h1 h2
              go_wp2_with fail
              go_ret
              exact ⟨rfl, hA.below⟩
  · go_enter Try.func8, Try.ntmps8
    go_wp2_with fail
    refine (awake_any _).mono ?_
    rintro e w1 ⟨rfl, hb1⟩
    go_wp2_with fail
    refine (awake_any _).mono ?_
    rintro e w2 ⟨rfl, hb2⟩
    go_wp2_with fail
    go_ret
    exact ⟨rfl, ((hA00.still hb1).still hb2).below⟩
end Go.Proofs.Ytabmmampgmcibaa.W
