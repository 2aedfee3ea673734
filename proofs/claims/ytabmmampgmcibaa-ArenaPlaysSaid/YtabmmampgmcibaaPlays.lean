/- ArenaPlays, the walk: for any Salt and any list of operations the law returns true and changes nothing. -/
import Derived.Test.YtabmmampgmcibaaPlaysA
namespace Go.Proofs.Ytabmmampgmcibaa.W
open Go.RowKit
set_option linter.unusedVariables false

theorem new_exact (b s : Int) (w : World) :
    Calls Try.prog 18 #[.agg #[.int .i64 b, .int .i64 s]] w fun e w' => e = .returned (.agg #[.int .i64 b, .int .i64 s, .slice none 0 0, .slice none 0 0, .int .i64 0]) ∧
      w' = (w.alloc (.cells #[.int .i64 b, .int .i64 s] 23)).alloc (.cells #[.int .i64 b, .int .i64 s, .slice none 0 0, .slice none 0 0, .int .i64 0] 32) := by
  go_enter Try.func18, Try.ntmps18
  go_wp2
  exact bodyPost_ret (v := .agg #[.int .i64 b, .int .i64 s, .slice none 0 0, .slice none 0 0, .int .i64 0]) (by simp [results, Try.results18, go_sem]) rfl ⟨rfl, rfl⟩

theorem pl_new {B : Nat} {w0 w wx : World} (h : All B w0 [] w) (hb : Below w.heap.size w wx) {g mb : Nat} {b s : Int}
    (k1 : Blk wx g [.int .i64 b, .int .i64 s, .slice none 0 0, .slice none 0 0, .int .i64 0] 32) (k2 : Blk wx mb [.int .i64 b, .int .i64 s, .slice none 0 0, .slice none 0 0] 68)
    (h1 : w.heap.size ≤ g) (h2 : w.heap.size ≤ mb) (hne : g ≠ mb) : All B w0 (plL g mb (newAr b s) (.slice none 0 0) (.slice none 0 0) (.slice none 0 0) (.slice none 0 0) (.slice none 0 0) []) wx := by
  have h' := h.still hb
  have hle := h.le
  have F : ∀ k, Ft g (.slice none 0 0) (.slice none 0 0) k → k = g := by
    rintro k (h | h | h)
    · exact h
    · simp [Value.ownBlock] at h
    · simp [Value.ownBlock] at h
  have hA : All B w0 [bk mb [.int .i64 b, .int .i64 s, .slice none 0 0, .slice none 0 0] 68, arI g (newAr b s) (.slice none 0 0) (.slice none 0 0)] wx := by
    refine ⟨?_, ?_, ?_, h'.below, h'.le⟩
    · intro o ho
      simp only [List.mem_cons, List.not_mem_nil, or_false] at ho
      rcases ho with rfl | rfl
      · exact k2
      · exact ⟨k1, World.ownsRow_nil _ _ _ _, World.ownsRow_nil _ _ _ _, by simp [Value.ownBlock], by simp [Value.ownBlock], by simp [Value.ownBlock]⟩
    · simp only [List.pairwise_cons, List.mem_cons, List.not_mem_nil, or_false]
      refine ⟨?_, fun a h => h.elim, List.Pairwise.nil⟩
      rintro a rfl k ha hb
      have e1 : k = mb := ha
      have e2 := F _ hb
      omega
    · intro o ho k hk
      simp only [List.mem_cons, List.not_mem_nil, or_false] at ho
      rcases ho with rfl | rfl
      · have e1 : k = mb := hk; omega
      · have e1 := F _ hk; omega
  exact ((hA.nil 3 1).nil 80 2).nil 3 1

set_option maxRecDepth 100000 in
set_option maxHeartbeats 4000000 in
theorem plays_any (b s : Int) (la : Option Addr) (ln lc : Nat) (f : Nat → Int × Int × Bool × Int) (w : World) (hl : InOps w la ln f)
    (hf : ∀ k, 0 ≤ (f k).1 ∧ (f k).1 ≤ 255 ∧ 0 ≤ (f k).2.1 ∧ (f k).2.1 ≤ 255 ∧ -32768 ≤ (f k).2.2.2 ∧ (f k).2.2.2 ≤ 32767) :
    Calls Try.prog 7 #[.agg #[.int .i64 b, .int .i64 s], .slice la ln lc] w fun e w' => e = .returned (.bool true) ∧ Below w.heap.size w w' := by
  have HL := Lib.hid hl
  have HF := Lib.hid hf
  clear hl hf
  have hA00 := (All.start w).alloc (.cells #[.int .i64 b, .int .i64 s] 23)
  by_cases hn : ln ≤ 150
  · have hnb : decide ((150 : Int) < (ln : Int)) = false := by simp; omega
    go_enter Try.func7, Try.ntmps7
    go_wp2_with (go_at_call 11; refine (awake_any _).mono ?_; rintro e w1 ⟨rfl, hb1⟩; (obtain ⟨hc1, hf1⟩ := bcell hb1))
    have hA1 := hA00.still hb1
    have k1 := (Blk.new w [.int .i64 b, .int .i64 s] 23).below hb1
    have p0 := k1.cell 0
    have p1 := k1.cell 1
    simp at p0 p1
    have lt1 := k1.lt
    clear k1 hA00 hb1 hc1 hf1
    go_cut [5, 6] (fun s5 s6 wx => ∃ g mb, s5 = .pointer (some ⟨g, 0, none⟩) ∧ s6 = .pointer (some ⟨mb, 0, none⟩) ∧ All w.heap.size w (plL g mb (newAr b s) (.slice none 0 0) (.slice none 0 0) (.slice none 0 0) (.slice none 0 0) (.slice none 0 0) []) wx)
    case first =>
      go_region_held3 (fun w' => w'.cell? ⟨w.heap.size, 0, none⟩ = some (.int .i64 b) ∧ w'.cell? ⟨w.heap.size, 1, none⟩ = some (.int .i64 s))
        (refine ⟨?_, ?_⟩ <;> ((try simp only [World.cell?_drew]); (repeat rw [World.cell?_alloc_lt _ _ _ (by first | omega | (simp <;> omega))]); assumption))
        (first
          | (go_at_call 18; refine (new_exact _ _ _).mono ?_; rintro e w2 ⟨rfl, rfl⟩))
      all_goals
        go_wp2_with fail
        go_meet
        refine ⟨_, _, rfl, rfl, pl_new hA1 ?_ ?_ ?_ ?_ ?_ ?_⟩
        · exact by repeat (first | exact Below.refl _ _ | refine Below.drew ?_ | refine Below.alloc ?_ (by first | exact Nat.le_refl _ | (simp <;> omega)) _)
        · repeat (first | (refine blk_at ?_; (simp; done)) | refine blk_drew ?_ | refine Blk.alloc ?_ _)
        · repeat (first | (refine blk_at ?_; (simp; done)) | refine blk_drew ?_ | refine Blk.alloc ?_ _)
        · omega
        · omega
        · omega
    case rest =>
      clear p0 p1 lt1 hA1
      obtain ⟨g, mb, rfl, rfl, hA2⟩ := hcut
      go_wp2_with fail
      go_loopw [7, 34] (fun gv iv wr => PlI w g mb ln gv iv wr) (fun _ iv _ => ln - (intOf iv).toNat)
      case atStart => exact ⟨0, newAr b s, _, _, _, _, [], Nat.zero_le _, rfl, good_new b s, Nat.le_refl _, Nat.le_refl _, by simp, hA2⟩
      case round =>
        clear hA2
        obtain ⟨i, A, sv, fv, cv, mv, xs, hi1, rfl, hG, hAl, hxl, hxb, hA⟩ := hrel
        have HG := Lib.hid hG
        have HX := Lib.hid hxb
        clear hG hxb
        have hfl : A.free.length ≤ i := by have := HG.out.cnt; omega
        by_cases hlt : i < ln
        · obtain ⟨lb, lo, hla, hlb, _⟩ := HL.out (by omega)
          subst hla
          have OC := fun wr l (h : PlS w l wr) => ops_cells HL.out hlt h
          obtain ⟨f1, f2, f3, f4, f5, f6⟩ := HF.out i
          have hm : Own _ _ _ _ _ _ := hA.head
          have hc : Own _ _ _ _ _ _ := hA.tail.head
          have hg : Own _ _ _ _ _ _ := hA.tail.tail.head
          obtain ⟨ma, mc, rfl⟩ := own_shape hm
          obtain ⟨ca, cc, rfl⟩ := own_shape hc
          obtain ⟨ga, gc, rfl⟩ := own_shape hg
          clear hm hc hg
          have OB := opH_bd (raw := (f i).2.2.1) (pk := (f i).2.1.toNat) ⟨f5, f6⟩ HX.out
          obtain ⟨hd, hhd⟩ : ∃ hd, opH (f i).2.2.1 (f i).2.2.2 (f i).2.1.toNat xs = hd := ⟨_, rfl⟩
          rw [hhd] at OB
          obtain ⟨ob1, ob2⟩ := OB
          have HH := Lib.hid hhd
          clear hhd
          generalize (f i).1 = kd at *
          generalize (f i).2.1 = pk at *
          generalize (f i).2.2.1 = raw at *
          generalize (f i).2.2.2 = v at *
          have hS : PlS w (plL g mb A sv fv (.slice ca A.slots.length cc) (.slice ma A.free.length mc) (.slice ga xs.length gc) xs) wr := hA
          have x0 := fun x : InS (PlS w (plL g mb A sv fv (.slice ca A.slots.length cc) (.slice ma A.free.length mc) (.slice ga xs.length gc) xs)) => (OC x.w _ x.h).1
          have x1 := fun x : InS (PlS w (plL g mb A sv fv (.slice ca A.slots.length cc) (.slice ma A.free.length mc) (.slice ga xs.length gc) xs)) => (OC x.w _ x.h).2.1
          have x2 := fun x : InS (PlS w (plL g mb A sv fv (.slice ca A.slots.length cc) (.slice ma A.free.length mc) (.slice ga xs.length gc) xs)) => (OC x.w _ x.h).2.2.1
          have x3 := fun x : InS (PlS w (plL g mb A sv fv (.slice ca A.slots.length cc) (.slice ma A.free.length mc) (.slice ga xs.length gc) xs)) => (OC x.w _ x.h).2.2.2
          have hne : Nonempty (InS (PlS w (plL g mb A sv fv (.slice ca A.slots.length cc) (.slice ma A.free.length mc) (.slice ga xs.length gc) xs))) := ⟨⟨_, hS⟩⟩
          have HOC := Lib.hid OC
          clear hA OC
          go_wp2_with fail
          refine reg_st (PlS w (plL g mb A sv fv (.slice ca A.slots.length cc) (.slice ma A.free.length mc) (.slice ga xs.length gc) xs)) (fun _ => PlS w (plL g mb A sv fv (.slice ca A.slots.length cc) (.slice ma A.free.length mc) (.slice ga xs.length gc) xs)) (by kernel_rfl) (by kernel_rfl) (by kernel_rfl) (fun _ _ h => h) (All.drew hS) ?_
          repeat (first
            | (refine st_held (by rfl) (fun K hK => ?_); go_big_quiet_step (fail); refine wpQuiet_nil ?_; refine hK.out _ ?_; clear hK K)
            | (refine st_skip (by rfl) ?_; simp only [Act.put, List.setIfInBounds_toArray, List.set_cons_zero, List.set_cons_succ]))
          refine st_call (.int .i64 hd) (by rfl) (by rfl) (fun w => by go_simp; exact ⟨rfl, rfl⟩) ?_ ?_
          · intro w1 h1
            refine (opH_any kd pk raw v (.slice ga xs.length gc) xs w1 (All.tail (All.tail h1)).head f3 f4 f5 f6 (by omega)).mono ?_
            rintro e w2 ⟨rfl, hb⟩
            exact ⟨by rw [HH.out], All.still h1 hb⟩
          simp only [Act.put, List.setIfInBounds_toArray, List.set_cons_zero, List.set_cons_succ]
          repeat (first
            | (refine st_held (by rfl) (fun K hK => ?_); go_big_quiet_step (fail); refine wpQuiet_nil ?_; refine hK.out _ ?_; clear hK K)
            | (refine st_skip (by rfl) ?_; simp only [Act.put, List.setIfInBounds_toArray, List.set_cons_zero, List.set_cons_succ]))
          refine st_nil ?_
          intro w1 h1
          clear x0 x1 x2 x3 hne hS HH
          have c0 := (HOC.out w1 _ h1).1
          have hA : All _ _ _ _ := h1
          have HA := Lib.hid hA
          clear h1 hA
          by_cases ka : kd % 5 = 0 ∨ kd % 5 = 1
          · have e01 : (kd % 5 == 0) = true ∨ ((kd % 5 == 0) = false ∧ (kd % 5 == 1) = true) := by
              rcases ka with h | h
              · exact .inl (by simpa using h)
              · exact .inr ⟨by simp; omega, by simpa using h⟩
            clear ka
            have b4 : Blk _ _ _ _ := HA.out.tail.tail.tail.head
            have m0 := b4.cell 0
            have m1 := b4.cell 1
            have m2 := b4.cell 2
            have m3 := b4.cell 3
            simp at m0 m1 m2 m3
            clear b4
            rcases e01 with e0 | ⟨e0, e1⟩
            all_goals
              go_wp2_with fail
              refine (madd_all HA.out v HG.out (by omega)).mono ?_
              rintro e w3 ⟨cv', mv', rfl, hA3⟩
              have hm : Own _ _ _ _ _ _ := hA3.head
              have hc : Own _ _ _ _ _ _ := hA3.tail.head
              obtain ⟨ma', mc', rfl⟩ := own_shape hm
              obtain ⟨ca', cc', rfl⟩ := own_shape hc
              clear hm hc m0 m1 m2 m3
              have hA4 := hA3.newBkA w3.heap.size rfl [.int .i64 A.b, .int .i64 A.s, .slice ca' (A.add v).slots.length cc', .slice ma' (A.add v).free.length mc'] 68
              have b4 : Blk _ _ _ _ := hA4.tail.tail.tail.tail.head
              have m0 := b4.cell 0
              have m1 := b4.cell 1
              have m2 := b4.cell 2
              have m3 := b4.cell 3
              have mf := b4.free
              simp at m0 m1 m2 m3
              clear b4
              have hA5 := (((hA4.setBk [_, _, _, _] 0 (.int .i64 A.b)).setBk [_, _, _, _] 1 (.int .i64 A.s)).setBk [_, _, _, _] 2 (.slice ca' (A.add v).slots.length cc')).setBk [_, _, _, _] 3 (.slice ma' (A.add v).free.length mc')
              go_upto_region 18 with fail
              generalize ((((w3.alloc (.cells #[.int .i64 A.b, .int .i64 A.s, .slice ca' (A.add v).slots.length cc', .slice ma' (A.add v).free.length mc'] 68)).setCell ⟨mb, 0, none⟩ (.int .i64 A.b)).setCell ⟨mb, 1, none⟩ (.int .i64 A.s)).setCell ⟨mb, 2, none⟩ (.slice ca' (A.add v).slots.length cc')).setCell ⟨mb, 3, none⟩ (.slice ma' (A.add v).free.length mc') = W5 at hA5 ⊢
              clear m0 m1 m2 m3 mf hA4 hA3
              have hA6 : All w.heap.size w [fsl (.slice ma' (A.add v).free.length mc') _, csl (.slice ca' (A.add v).slots.length cc') _, gl _ xs, bk mb [.int .i64 A.b, .int .i64 A.s, .slice ca' (A.add v).slots.length cc', .slice ma' (A.add v).free.length mc'] _, arI g A sv fv] W5 := hA5.sel [1, 2, 3, 4, 5] (by decide)
              clear hA5
              go_wp2_with (at_builtin; refine wpList_append_gl [_, _] hA6 (hdl A.b A.s (A.nextSlot : Nat)) rfl _ _ rfl rfl rfl (by omega) ?_; intro gv' w6 hA7)
              refine (add_all [_, _, _, _] hA7 v (HG.out.fit (by omega))).mono ?_
              rintro e w7 ⟨sv', fv', rfl, hA8⟩
              clear hA7 hA6
              have b4 : Blk _ _ _ _ := hA8.tail.tail.tail.head
              have m0 := b4.cell 0
              have m1 := b4.cell 1
              have m2 := b4.cell 2
              have m3 := b4.cell 3
              simp at m0 m1 m2 m3
              clear b4
              have HS := Lib.hid (same_all hA8 (add_b A v) (add_s A v) (HG.out.add v) (by have := add_len A v; omega))
              clear hA8
              go_wp2_with fail
              refine HS.out.mono ?_
              rintro e w8 ⟨rfl, hA9⟩
              clear m0 m1 m2 m3 HS
              go_wp2_with fail
              go_roundw
              case rel => exact ⟨i + 1, A.add v, _, _, _, _, xs ++ [hdl A.b A.s (A.nextSlot : Nat)], by omega, by go_num, (HG.out.add v), by first | omega | (have := add_len A v; omega) | (rw [drop_len]; omega) | (rw [setAt_len]; omega), by simp; omega, (by intro x hx; rcases List.mem_append.1 hx with hx | hx; exact HX.out x hx; rw [List.mem_singleton.1 hx]; exact ⟨hdl_lo _ _ _, hdl_hi _ _ _⟩), hA9⟩
              case measure => simp [intOf]; omega
          · have e0 : (kd % 5 == 0) = false := by simp; omega
            have e1 : (kd % 5 == 1) = false := by simp; omega
            clear ka
            have b4 : Blk _ _ _ _ := HA.out.tail.tail.tail.head
            have m0 := b4.cell 0
            have m1 := b4.cell 1
            have m2 := b4.cell 2
            have m3 := b4.cell 3
            simp at m0 m1 m2 m3
            clear b4
            by_cases k2 : kd % 5 = 2
            · have e2 : (kd % 5 == 2) = true := by simpa using k2
              clear k2
              go_wp2_with fail
              have hA2 : All w.heap.size w [csl _ A.slots, fsl _ A.free, gl _ xs, bk mb _ _, arI g A sv fv] _ := HA.out.sel [1, 0, 2, 3, 4] (by decide)
              refine (mset_all hA2 ⟨_, _, _, rfl⟩ hd v ob1 ob2 (by omega)).mono ?_
              rintro e w3 ⟨cv', rfl, hA3⟩
              have hc : Own _ _ _ _ _ _ := hA3.head
              obtain ⟨ca', cc', rfl⟩ := own_shape hc
              clear hc m0 m1 m2 m3 hA2
              have hA4 := hA3.newBkA w3.heap.size rfl [.int .i64 A.b, .int .i64 A.s, .slice ca' (A.setAt hd v).slots.length cc', .slice ma A.free.length mc] 68
              have b4 : Blk _ _ _ _ := hA4.tail.tail.tail.tail.head
              have m0 := b4.cell 0
              have m1 := b4.cell 1
              have m2 := b4.cell 2
              have m3 := b4.cell 3
              have mf := b4.free
              simp at m0 m1 m2 m3
              clear b4
              have hA5 := (((hA4.setBk [_, _, _, _] 0 (.int .i64 A.b)).setBk [_, _, _, _] 1 (.int .i64 A.s)).setBk [_, _, _, _] 2 (.slice ca' (A.setAt hd v).slots.length cc')).setBk [_, _, _, _] 3 (.slice ma A.free.length mc)
              go_upto_region 24 with fail
              generalize ((((w3.alloc (.cells #[.int .i64 A.b, .int .i64 A.s, .slice ca' (A.setAt hd v).slots.length cc', .slice ma A.free.length mc] 68)).setCell ⟨mb, 0, none⟩ (.int .i64 A.b)).setCell ⟨mb, 1, none⟩ (.int .i64 A.s)).setCell ⟨mb, 2, none⟩ (.slice ca' (A.setAt hd v).slots.length cc')).setCell ⟨mb, 3, none⟩ (.slice ma A.free.length mc) = W5 at hA5 ⊢
              clear m0 m1 m2 m3 mf hA4 hA3
              have hA6 : All w.heap.size w [fsl (.slice ma A.free.length mc) _, csl (.slice ca' (A.setAt hd v).slots.length cc') _, gl _ xs, bk mb [.int .i64 A.b, .int .i64 A.s, .slice ca' (A.setAt hd v).slots.length cc', .slice ma A.free.length mc] _, arI g A sv fv] W5 := hA5.sel [2, 1, 3, 4, 5] (by decide)
              clear hA5
              go_wp2_with fail
              refine (set_all [_, _, _, _] hA6 hd v ob1 ob2 (HG.out.fit (by omega))).mono ?_
              rintro e w7 ⟨sv', fv', rfl, hA8⟩
              clear hA6
              have hA8' : All w.heap.size w [fsl (.slice ma A.free.length mc) (A.setAt hd v).free, csl (.slice ca' (A.setAt hd v).slots.length cc') (A.setAt hd v).slots, gl (.slice ga xs.length gc) xs, bk mb [.int .i64 A.b, .int .i64 A.s, .slice ca' (A.setAt hd v).slots.length cc', .slice ma A.free.length mc] 68, arI g (A.setAt hd v) sv' fv'] w7 := by rw [setAt_free]; exact hA8
              clear hA8
              cases A.has hd
              all_goals
                have b4 : Blk _ _ _ _ := hA8'.tail.tail.tail.head
                have m0 := b4.cell 0
                have m1 := b4.cell 1
                have m2 := b4.cell 2
                have m3 := b4.cell 3
                simp at m0 m1 m2 m3
                clear b4
                have HS := Lib.hid (same_all hA8' (setAt_b A hd v) (setAt_s A hd v) (HG.out.setAt hd v) (by rw [setAt_len]; omega))
                clear hA8'
                go_wp2_with fail
                refine HS.out.mono ?_
                rintro e w8 ⟨rfl, hA8⟩
                clear m0 m1 m2 m3 HS
                go_wp2_with fail
                go_roundw
                case rel => exact ⟨i + 1, A.setAt hd v, _, _, _, _, xs, by omega, by go_num, (HG.out.setAt hd v), by first | omega | (have := add_len A v; omega) | (rw [drop_len]; omega) | (rw [setAt_len]; omega), by omega, HX.out, hA8⟩
                case measure => simp [intOf]; omega
            · have e2 : (kd % 5 == 2) = false := by simpa using k2
              by_cases k3 : kd % 5 = 3
              · have e3 : (kd % 5 == 3) = true := by simpa using k3
                clear k2 k3
                go_wp2_with fail
                refine (mdrop_all HA.out hd ob1 ob2 (by omega) (by omega)).mono ?_
                rintro e w3 ⟨cv', mv', rfl, hA3⟩
                have hm : Own _ _ _ _ _ _ := hA3.head
                have hc : Own _ _ _ _ _ _ := hA3.tail.head
                obtain ⟨ma', mc', rfl⟩ := own_shape hm
                obtain ⟨ca', cc', rfl⟩ := own_shape hc
                clear hm hc m0 m1 m2 m3
                have hA4 := hA3.newBkA w3.heap.size rfl [.int .i64 A.b, .int .i64 A.s, .slice ca' (A.drop 0 hd).slots.length cc', .slice ma' (A.drop 0 hd).free.length mc'] 68
                have b4 : Blk _ _ _ _ := hA4.tail.tail.tail.tail.head
                have m0 := b4.cell 0
                have m1 := b4.cell 1
                have m2 := b4.cell 2
                have m3 := b4.cell 3
                have mf := b4.free
                simp at m0 m1 m2 m3
                clear b4
                have hA5 := (((hA4.setBk [_, _, _, _] 0 (.int .i64 A.b)).setBk [_, _, _, _] 1 (.int .i64 A.s)).setBk [_, _, _, _] 2 (.slice ca' (A.drop 0 hd).slots.length cc')).setBk [_, _, _, _] 3 (.slice ma' (A.drop 0 hd).free.length mc')
                go_upto_region 29 with fail
                generalize ((((w3.alloc (.cells #[.int .i64 A.b, .int .i64 A.s, .slice ca' (A.drop 0 hd).slots.length cc', .slice ma' (A.drop 0 hd).free.length mc'] 68)).setCell ⟨mb, 0, none⟩ (.int .i64 A.b)).setCell ⟨mb, 1, none⟩ (.int .i64 A.s)).setCell ⟨mb, 2, none⟩ (.slice ca' (A.drop 0 hd).slots.length cc')).setCell ⟨mb, 3, none⟩ (.slice ma' (A.drop 0 hd).free.length mc') = W5 at hA5 ⊢
                clear m0 m1 m2 m3 mf hA4 hA3
                have hA6 : All w.heap.size w [fsl (.slice ma' (A.drop 0 hd).free.length mc') _, csl (.slice ca' (A.drop 0 hd).slots.length cc') _, gl _ xs, bk mb [.int .i64 A.b, .int .i64 A.s, .slice ca' (A.drop 0 hd).slots.length cc', .slice ma' (A.drop 0 hd).free.length mc'] _, arI g A sv fv] W5 := hA5.sel [1, 2, 3, 4, 5] (by decide)
                clear hA5
                go_wp2_with fail
                refine (drop_all [_, _, _, _] hA6 hd ob1 ob2 (HG.out.fit (by omega))).mono ?_
                rintro e w7 ⟨sv', fv', rfl, hA8⟩
                clear hA6
                cases A.has hd
                all_goals
                  have b4 : Blk _ _ _ _ := hA8.tail.tail.tail.head
                  have m0 := b4.cell 0
                  have m1 := b4.cell 1
                  have m2 := b4.cell 2
                  have m3 := b4.cell 3
                  simp at m0 m1 m2 m3
                  clear b4
                  have HS := Lib.hid (same_all hA8 (drop_b 0 A hd) (drop_s 0 A hd) (HG.out.drop 0 hd) (by rw [drop_len]; omega))
                  clear hA8
                  go_wp2_with fail
                  refine HS.out.mono ?_
                  rintro e w8 ⟨rfl, hA9⟩
                  clear m0 m1 m2 m3 HS
                  go_wp2_with fail
                  go_roundw
                  case rel => exact ⟨i + 1, A.drop 0 hd, _, _, _, _, xs, by omega, by go_num, (HG.out.drop 0 hd), by first | omega | (have := add_len A v; omega) | (rw [drop_len]; omega) | (rw [setAt_len]; omega), by omega, HX.out, hA9⟩
                  case measure => simp [intOf]; omega
              · have e3 : (kd % 5 == 3) = false := by simpa using k3
                clear k2 k3
                go_wp2_with fail
                refine (get_all [_, _, _, _] HA.out hd ob1 ob2 (HG.out.fit (by omega))).mono ?_
                rintro e w3 ⟨rfl, hA3⟩
                clear m0 m1 m2 m3
                have b4 : Blk _ _ _ _ := hA3.tail.tail.tail.head
                have m0 := b4.cell 0
                have m1 := b4.cell 1
                have m2 := b4.cell 2
                have m3 := b4.cell 3
                simp at m0 m1 m2 m3
                clear b4
                go_wp2_with fail
                refine (mhas_any (A := A) (fv := .slice ma A.free.length mc) hA3.tail.head hd ob1 ob2 (by omega)).mono ?_
                rintro e w4 ⟨rfl, hb4⟩
                have hA4 := hA3.still hb4
                clear m0 m1 m2 m3 hA3 hb4
                have b4 : Blk _ _ _ _ := hA4.tail.tail.tail.head
                have m0 := b4.cell 0
                have m1 := b4.cell 1
                have m2 := b4.cell 2
                have m3 := b4.cell 3
                simp at m0 m1 m2 m3
                clear b4
                rcases get_look (A := A) (h := hd) with ⟨g1, g2, g3⟩ | ⟨g1, k, y, _, g3, g2, g4⟩
                · rw [g1, g2, g3]
                  clear g1 g2 g3
                  have HS := Lib.hid (same_all hA4 rfl rfl HG.out (by omega))
                  clear hA4
                  go_wp2_with fail
                  refine HS.out.mono ?_
                  rintro e w8 ⟨rfl, hA8⟩
                  clear m0 m1 m2 m3 HS
                  go_wp2_with fail
                  go_roundw
                  case rel => exact ⟨i + 1, A, _, _, _, _, xs, by omega, by go_num, HG.out, by omega, by omega, HX.out, hA8⟩
                  case measure => simp [intOf]; omega
                · rw [g1, g2, g3]
                  have hkl : k < A.slots.length := (List.getElem?_eq_some_iff.1 g4).1
                  have ho : Own _ _ _ _ _ _ := hA4.tail.head
                  obtain ⟨cg, cc', he, _⟩ := own_some ho (by omega)
                  simp only [Value.slice.injEq] at he
                  obtain ⟨rfl, _, rfl⟩ := he
                  have q1 := ho.cellAt (k * 2 + 1) (by omega)
                  rw [(scells_used _ _ _ _ g4).2] at q1
                  clear g1 g2 g3 g4 ho
                  have HS := Lib.hid (same_all hA4 rfl rfl HG.out (by omega))
                  clear hA4
                  go_wp2_with fail
                  refine HS.out.mono ?_
                  rintro e w8 ⟨rfl, hA8⟩
                  clear m0 m1 m2 m3 HS
                  go_wp2_with fail
                  go_roundw
                  case rel => exact ⟨i + 1, A, _, _, _, _, xs, by omega, by go_num, HG.out, by omega, by omega, HX.out, hA8⟩
                  case measure => simp [intOf]; omega
        · go_wp2_with fail
          go_ret
          exact ⟨rfl, hA.below⟩
  · go_enter Try.func7, Try.ntmps7
    go_wp2_with fail
    refine (awake_any _).mono ?_
    rintro e w1 ⟨rfl, hb1⟩
    go_wp2_with fail
    refine (awake_any _).mono ?_
    rintro e w2 ⟨rfl, hb2⟩
    go_wp2_with fail
    go_ret
    exact ⟨rfl, ((hA00.still hb1).still hb2).below⟩
end Go.Proofs.Ytabmmampgmcibaa.W
