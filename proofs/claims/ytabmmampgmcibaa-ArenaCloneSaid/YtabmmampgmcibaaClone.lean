/- ArenaClone, the walk: for any Salt, records and drops the law returns true and changes nothing. -/
import Derived.Test.YtabmmampgmcibaaCloneA
namespace Go.Proofs.Ytabmmampgmcibaa.W
open Go.RowKit
set_option linter.unusedVariables false

/-- the arena that goes on, its two copies, the handles, the Salt -/
def ClR (w : World) (g gb gc : Nat) (A : Ar Int) (sb fb sc fc gv : Value) (xs : List Int) (n : Nat) (iv : Value) (wr : World) : Prop :=
  ∃ (i : Nat) (A' : Ar Int) (sv fv : Value), i ≤ n ∧ iv = .int .i64 (i : Int) ∧ Good A' ∧ A'.slots.length ≤ 1000 ∧ All w.heap.size w [arI g A' sv fv, arI gc A sc fc, arI gb A sb fb, gl gv xs, bk w.heap.size [.int .i64 A.b, .int .i64 A.s] 23] wr
/-- two equal arenas are looked at -/
def ClE (w : World) (g1 g2 : Nat) (A : Ar Int) (s1 f1 s2 f2 : Value) (n : Nat) (iv : Value) (wr : World) : Prop :=
  ∃ i : Nat, i ≤ n ∧ iv = .int .i64 (i : Int) ∧ All w.heap.size w [arI g1 A s1 f1, arI g2 A s2 f2, bk w.heap.size [.int .i64 A.b, .int .i64 A.s] 23] wr
theorem hs_rng (b s : Int) (n : Nat) : ∀ x ∈ hs b s n, -9223372036854775808 ≤ x ∧ x ≤ 9223372036854775807 := by
  intro x hx
  simp [hs] at hx
  obtain ⟨k, _, rfl⟩ := hx
  exact ⟨hdl_lo _ _ _, hdl_hi _ _ _⟩

set_option maxRecDepth 100000 in
set_option maxHeartbeats 4000000 in
theorem clone_law (b s : Int) (la da : Option Addr) (ln lc dn dc : Nat) (f d : Nat → Int) (w : World) (hl : In w la ln (fun k => .int .i16 (f k))) (hd : In w da dn (fun k => .int .u8 (d k)))
    (hf1 : ∀ k, -32768 ≤ f k) (hf2 : ∀ k, f k ≤ 32767) (hd1 : ∀ k, 0 ≤ d k) (hd2 : ∀ k, d k ≤ 255) :
    Calls Try.prog 10 #[.agg #[.int .i64 b, .int .i64 s], .slice la ln lc, .slice da dn dc] w fun e w' => e = .returned (.bool true) ∧ Below w.heap.size w w' := by
  have HL := Lib.hid hl
  have HD := Lib.hid hd
  have HF1 := Lib.hid hf1
  have HF2 := Lib.hid hf2
  have HD1 := Lib.hid hd1
  have HD2 := Lib.hid hd2
  clear hl hd hf1 hf2 hd1 hd2
  have hA00 := (All.start w).newBkA w.heap.size rfl [.int .i64 b, .int .i64 s] 23
  by_cases hn : ln ≤ 100
  · have hnb : decide ((100 : Int) < (ln : Int)) = false := by simp; omega
    by_cases hm : dn ≤ 100
    · have hmb : decide ((100 : Int) < (dn : Int)) = false := by simp; omega
      go_enter Try.func10, Try.ntmps10
      go_wp2_with (go_at_call 11; refine (awake_any _).mono ?_; rintro e w1 ⟨rfl, hb1⟩; (obtain ⟨hc1, hf1⟩ := bcell hb1))
      have hA1 := hA00.still hb1
      have FF := fun W l (h : All w.heap.size w l W) => filled_any b s la da ln lc dn dc f d W (HL.out.still h.below) (HD.out.still h.below) (by omega) (by omega) HF1.out HF2.out HD1.out HD2.out
      refine (FF _ _ hA1).mono ?_
      rintro e w2 ⟨sv, fv, gv, rfl, hA2⟩
      have hA3 := hA1.after hA2
      obtain ⟨sa, sc, rfl⟩ := own_shape hA2.head
      obtain ⟨fa, fc, rfl⟩ := own_shape hA2.tail.head
      have hA4 := hA3.ofParts
      have hln := fl_len b s f ln d dn
      have hGd := fl_good b s f ln d dn
      have hAb := fl_b b s f ln d dn
      have hAs := fl_s b s f ln d dn
      unfold arV
      unfold FillP at FF
      generalize fl b s f ln d dn = A at *
      subst hAb hAs
      have HFF := Lib.hid FF
      have HLN := Lib.hid hln
      have HG := Lib.hid hGd
      have hsl : A.slots.length ≤ 1000 := by omega
      have hfl : A.free.length ≤ 1000 := by have := hGd.cnt; omega
      have HR := Lib.hid (hs_rng A.b A.s ln)
      clear hA2 hA3 hb1 hc1 hf1 hA00 hA1 FF hln hGd
      go_wp2_with fail
      generalize w2.alloc (.cells #[.int .i64 A.b, .int .i64 A.s, .slice sa A.slots.length sc, .slice fa A.free.length fc, .int .i64 A.live] 32) = W at hA4 ⊢
      generalize w2.heap.size = g at hA4 ⊢
      refine (clone_any hA4.head (by omega) (by omega)).mono ?_
      rintro e w3 ⟨sb, fb, rfl, hA5⟩
      have hA6 := hA4.after hA5
      have ho : Own _ _ _ _ _ _ := hA5.head
      have hp : Own _ _ _ _ _ _ := hA5.tail.head
      obtain ⟨sba, sbc, rfl⟩ := own_shape ho
      obtain ⟨fba, fbc, rfl⟩ := own_shape hp
      clear ho hp hA5 hA4
      unfold arV
      go_wp2_with fail
      refine (clone_any hA6.tail.tail.head (by omega) (by omega)).mono ?_
      rintro e w4 ⟨sc', fc', rfl, hA7⟩
      have hA8 := hA6.after hA7
      have ho : Own _ _ _ _ _ _ := hA7.head
      have hp : Own _ _ _ _ _ _ := hA7.tail.head
      obtain ⟨sca, scc, rfl⟩ := own_shape ho
      obtain ⟨fca, fcc, rfl⟩ := own_shape hp
      clear ho hp hA7 hA6
      have hA9 : All w.heap.size w (parts A (.slice sba A.slots.length sbc) (.slice fba A.free.length fbc) ++ [sl _ 2 (.slice sca A.slots.length scc) A.slots.length (scells icell A.slots), sl _ 1 (.slice fca A.free.length fcc) A.free.length (fcells A.free), arI g A _ _, gl gv (hs A.b A.s ln), bk w.heap.size _ _]) w4 := hA8.sel [2, 3, 0, 1, 4, 5, 6] (by decide)
      have hA10 := hA9.ofParts
      have hA11 : All w.heap.size w (parts A (.slice sca A.slots.length scc) (.slice fca A.free.length fcc) ++ [arI w4.heap.size A (.slice sba A.slots.length sbc) (.slice fba A.free.length fbc), arI g A _ _, gl gv (hs A.b A.s ln), bk w.heap.size _ _]) _ := hA10.sel [1, 2, 0, 3, 4, 5] (by decide)
      have hA12 := hA11.ofParts
      rw [show (w4.alloc (.cells #[.int .i64 A.b, .int .i64 A.s, .slice sba A.slots.length sbc, .slice fba A.free.length fbc, .int .i64 A.live] 32)).heap.size = w4.heap.size + 1 by simp] at hA12
      clear hA8 hA9 hA10 hA11
      have hg : Own _ _ _ _ _ _ := hA12.tail.tail.tail.head
      obtain ⟨ga, gcp, rfl⟩ := own_shape hg
      rw [hs_len] at hA12 ⊢
      clear hg
      unfold arV
      go_upto_region 5 with (fail)
      generalize (w4.alloc (.cells #[.int .i64 A.b, .int .i64 A.s, .slice sba A.slots.length sbc, .slice fba A.free.length fbc, .int .i64 A.live] 32)).alloc (.cells #[.int .i64 A.b, .int .i64 A.s, .slice sca A.slots.length scc, .slice fca A.free.length fcc, .int .i64 A.live] 32) = W2 at hA12 ⊢
      generalize hgc : w4.heap.size + 1 = gc at hA12 ⊢
      clear hgc
      generalize w4.heap.size = gb at hA12 ⊢
      have hA13 : All w.heap.size w [arI g A _ _, arI gc A (.slice sca A.slots.length scc) (.slice fca A.free.length fcc), arI gb A (.slice sba A.slots.length sbc) (.slice fba A.free.length fbc), gl (.slice ga ln gcp) (hs A.b A.s ln), bk w.heap.size [.int .i64 A.b, .int .i64 A.s] 23] W2 := hA12.sel [2, 0, 1, 3, 4] (by decide)
      clear hA12
      go_wp2_with fail
      go_loopw [41] (fun iv wr => ClR w g gb gc A (.slice sba A.slots.length sbc) (.slice fba A.free.length fbc) (.slice sca A.slots.length scc) (.slice fca A.free.length fcc) (.slice ga ln gcp) (hs A.b A.s ln) ln iv wr) (fun iv _ => ln - (intOf iv).toNat)
      case atStart => exact ⟨0, A, _, _, Nat.zero_le _, rfl, HG.out, hsl, hA13⟩
      case round =>
        clear hA13
        obtain ⟨i, A', sv, fv, hi1, rfl, hG', hl', hA⟩ := hrel
        have HG' := Lib.hid hG'
        clear hG'
        by_cases hlt : i < ln
        · have hown : Own _ _ _ _ _ _ := hA.tail.tail.tail.head
          rw [hs_len] at hown
          obtain ⟨gg, gcp', he, _⟩ := own_some hown (by omega)
          simp only [Value.slice.injEq] at he
          obtain ⟨rfl, _, rfl⟩ := he
          have hcell := hown.cellAt i (by omega)
          rw [hs_get A.b A.s (by omega)] at hcell
          clear hown
          by_cases hpar : (i : Int) % 2 = 0
          · have ep : ((i : Int) % 2 == 0) = true := by simpa using hpar
            clear hpar
            go_wp2_with fail
            refine (drop_all [] hA _ (hdl_lo _ _ _) (hdl_hi _ _ _) (HG'.out.fit (by omega))).mono ?_
            rintro e w5 ⟨sv', fv', rfl, hA5⟩
            clear hA hcell
            go_wp2_with fail
            go_roundw
            case rel => exact ⟨i + 1, _, _, _, by omega, by go_num, HG'.out.drop 0 _, by rw [drop_len]; omega, hA5⟩
            case measure => simp [intOf]; omega
          · have ep : ((i : Int) % 2 == 0) = false := by simpa using hpar
            clear hpar
            go_wp2_with fail
            refine (set_all [] hA _ 99 (hdl_lo _ _ _) (hdl_hi _ _ _) (HG'.out.fit (by omega))).mono ?_
            rintro e w5 ⟨sv', fv', rfl, hA5⟩
            clear hA hcell
            go_wp2_with fail
            go_roundw
            case rel => exact ⟨i + 1, _, _, _, by omega, by go_num, HG'.out.setAt _ 99, by rw [setAt_len]; omega, hA5⟩
            case measure => simp [intOf]; omega
        · go_wp2_with fail
          refine (add_all [] hA 5 (HG'.out.fit (by omega))).mono ?_
          rintro e w5 ⟨sv', fv', rfl, hA5⟩
          go_wp2_with fail
          refine (add_all [] hA5 6 ((HG'.out.add 5).fit (by have := add_len A' 5; omega))).mono ?_
          rintro e w6 ⟨sv'', fv'', rfl, hA6⟩
          have hA7 : All w.heap.size w [arI gb A (.slice sba A.slots.length sbc) (.slice fba A.free.length fbc), arI gc A (.slice sca A.slots.length scc) (.slice fca A.free.length fcc), bk w.heap.size [.int .i64 A.b, .int .i64 A.s] 23] w6 := hA6.sel [2, 1, 4] (by decide)
          clear hA hA5 hA6 HG' hl'
          have hB : AtI _ _ _ _ _ := hA7.head
          have hC : AtI _ _ _ _ _ := hA7.tail.head
          have hT : Blk _ _ _ _ := hA7.tail.tail.head
          have q0 := hB.blk.cell 0
          have q1 := hB.blk.cell 1
          have q2 := hB.blk.cell 2
          have q3 := hB.blk.cell 3
          have q4 := hB.blk.cell 4
          have r2 := hC.blk.cell 2
          have r3 := hC.blk.cell 3
          have r4 := hC.blk.cell 4
          have t0 := hT.cell 0
          have t1 := hT.cell 1
          simp at q0 q1 q2 q3 q4 r2 r3 r4 t0 t1
          clear hB hC hT
          go_wp2_with fail
          clear q0 q1 q2 q3 q4 r2 r3 r4 t0 t1
          go_loopw [92] (fun iv wr => ClE w gb gc A (.slice sba A.slots.length sbc) (.slice fba A.free.length fbc) (.slice sca A.slots.length scc) (.slice fca A.free.length fcc) A.slots.length iv wr) (fun iv _ => A.slots.length - (intOf iv).toNat)
          case atStart => exact ⟨0, Nat.zero_le _, rfl, hA7⟩
          case round =>
            clear hA7 hlt hi1
            obtain ⟨k, hk, rfl, hA⟩ := hrel
            have hB : AtI _ _ _ _ _ := hA.head
            have hC : AtI _ _ _ _ _ := hA.tail.head
            by_cases hkl : k < A.slots.length
            · obtain ⟨sg, sc9, he, _⟩ := own_some hB.slots (by omega)
              simp only [Value.slice.injEq] at he
              obtain ⟨rfl, _, rfl⟩ := he
              obtain ⟨cg, cc9, he, _⟩ := own_some hC.slots (by omega)
              simp only [Value.slice.injEq] at he
              obtain ⟨rfl, _, rfl⟩ := he
              obtain ⟨x, hx⟩ : ∃ x, A.slots[k]? = some x := ⟨_, List.getElem?_eq_getElem hkl⟩
              obtain ⟨xu, xv⟩ := x
              obtain ⟨t0, t1⟩ := scells_used _ _ _ _ hx
              have q1 := hB.slots.cellAt (k * 2) (by omega)
              have q2 := hC.slots.cellAt (k * 2) (by omega)
              have q3 := hB.slots.cellAt (k * 2 + 1) (by omega)
              have q4 := hC.slots.cellAt (k * 2 + 1) (by omega)
              rw [t0] at q1 q2
              rw [t1] at q3 q4
              have p2 := hB.blk.cell 2
              have r2 := hC.blk.cell 2
              simp at p2 r2
              clear t0 t1 hx hB hC
              go_wp2_with fail
              go_quiet (fail)
              go_wp2_with fail
              go_roundw
              case rel => exact ⟨k + 1, by omega, by go_num, hA.drewN nq⟩
              case measure => simp [intOf]; omega
            · clear hB hC
              have hA1 : All w.heap.size w [arI gb A (.slice sba A.slots.length sbc) (.slice fba A.free.length fbc), bk w.heap.size [.int .i64 A.b, .int .i64 A.s] 23] wr := hA.sel [0, 2] (by decide)
              have hT : Blk _ _ _ _ := hA.tail.tail.head
              have t0 := hT.cell 0
              have t1 := hT.cell 1
              simp at t0 t1
              clear hA hT
              go_wp2_with fail
              refine (HFF.out _ _ hA1).mono ?_
              rintro e w7 ⟨sd, fd, gd, rfl, hA2⟩
              have hA3 := hA1.after hA2
              obtain ⟨sda, sdc, rfl⟩ := own_shape hA2.head
              obtain ⟨fda, fdc, rfl⟩ := own_shape hA2.tail.head
              have hA4 := hA3.ofParts
              unfold arV
              clear hA2 hA3 t0 t1 hA1
              go_upto_region 23 with (fail)
              generalize w7.alloc (.cells #[.int .i64 A.b, .int .i64 A.s, .slice sda A.slots.length sdc, .slice fda A.free.length fdc, .int .i64 A.live] 32) = W7 at hA4 ⊢
              generalize w7.heap.size = gd at hA4 ⊢
              have hA5 : All w.heap.size w [arI gb A (.slice sba A.slots.length sbc) (.slice fba A.free.length fbc), arI gd A (.slice sda A.slots.length sdc) (.slice fda A.free.length fdc), bk w.heap.size [.int .i64 A.b, .int .i64 A.s] 23] W7 := hA4.sel [2, 0, 3] (by decide)
              clear hA4
              have hD : AtI _ _ _ _ _ := hA5.tail.head
              have r3 := hD.blk.cell 3
              simp at r3
              clear hD
              go_wp2_with fail
              clear r3
              go_loopw [117] (fun iv wr => ClE w gb gd A (.slice sba A.slots.length sbc) (.slice fba A.free.length fbc) (.slice sda A.slots.length sdc) (.slice fda A.free.length fdc) A.free.length iv wr) (fun iv _ => A.free.length - (intOf iv).toNat)
              case atStart => exact ⟨0, Nat.zero_le _, rfl, hA5⟩
              case round =>
                clear hA5 hkl hk
                obtain ⟨k, hk, rfl, hA⟩ := hrel
                have hB : AtI _ _ _ _ _ := hA.head
                have hC : AtI _ _ _ _ _ := hA.tail.head
                by_cases hkl : k < A.free.length
                · obtain ⟨sg, sc9, he, _⟩ := own_some hB.free (by omega)
                  simp only [Value.slice.injEq] at he
                  obtain ⟨rfl, _, rfl⟩ := he
                  obtain ⟨cg, cc9, he, _⟩ := own_some hC.free (by omega)
                  simp only [Value.slice.injEq] at he
                  obtain ⟨rfl, _, rfl⟩ := he
                  have q1 := hB.free.cellAt k (by omega)
                  have q2 := hC.free.cellAt k (by omega)
                  obtain ⟨y, hy⟩ : ∃ y : Int, (fcells A.free)[k]? = some (.int .i64 y) := ⟨((A.free[k] : Nat) : Int), by simp [fcells, hkl]⟩
                  rw [hy] at q1 q2
                  have p2 := hB.blk.cell 3
                  have r2 := hC.blk.cell 3
                  simp at p2 r2
                  clear hy hB hC
                  go_wp2_with fail
                  go_quiet (fail)
                  go_wp2_with fail
                  go_roundw
                  case rel => exact ⟨k + 1, by omega, by go_num, hA.drewN nq⟩
                  case measure => simp [intOf]; omega
                · have r2 := hC.blk.cell 2
                  simp at r2
                  clear hB hC
                  go_wp2_with fail
                  clear r2
                  go_loopw [135] (fun iv wr => ClE w gb gd A (.slice sba A.slots.length sbc) (.slice fba A.free.length fbc) (.slice sda A.slots.length sdc) (.slice fda A.free.length fdc) A.slots.length iv wr) (fun iv _ => A.slots.length - (intOf iv).toNat)
                  case atStart => exact ⟨0, Nat.zero_le _, rfl, hA⟩
                  case round =>
                    clear hA hkl hk
                    obtain ⟨k, hk, rfl, hA⟩ := hrel
                    have hB : AtI _ _ _ _ _ := hA.head
                    have hC : AtI _ _ _ _ _ := hA.tail.head
                    by_cases hkl : k < A.slots.length
                    · obtain ⟨sg, sc9, he, _⟩ := own_some hB.slots (by omega)
                      simp only [Value.slice.injEq] at he
                      obtain ⟨rfl, _, rfl⟩ := he
                      obtain ⟨cg, cc9, he, _⟩ := own_some hC.slots (by omega)
                      simp only [Value.slice.injEq] at he
                      obtain ⟨rfl, _, rfl⟩ := he
                      obtain ⟨x, hx⟩ : ∃ x, A.slots[k]? = some x := ⟨_, List.getElem?_eq_getElem hkl⟩
                      obtain ⟨xu, xv⟩ := x
                      obtain ⟨t0, t1⟩ := scells_used _ _ _ _ hx
                      have q1 := hB.slots.cellAt (k * 2) (by omega)
                      have q2 := hC.slots.cellAt (k * 2) (by omega)
                      have q3 := hB.slots.cellAt (k * 2 + 1) (by omega)
                      have q4 := hC.slots.cellAt (k * 2 + 1) (by omega)
                      rw [t0] at q1 q2
                      rw [t1] at q3 q4
                      have p2 := hB.blk.cell 2
                      have r2 := hC.blk.cell 2
                      simp at p2 r2
                      clear t0 t1 hx hB hC
                      go_wp2_with fail
                      go_quiet (fail)
                      go_wp2_with fail
                      go_roundw
                      case rel => exact ⟨k + 1, by omega, by go_num, hA.drewN nq⟩
                      case measure => simp [intOf]; omega
                    · have p2 := hB.blk.cell 2
                      have r2 := hC.blk.cell 2
                      have p3 := hB.blk.cell 3
                      have r3 := hC.blk.cell 3
                      simp at p2 r2 p3 r3
                      clear hB hC
                      go_wp2_with fail
                      go_ret
                      exact ⟨rfl, hA.below⟩
    · have hmb : decide ((100 : Int) < (dn : Int)) = true := by simp; omega
      go_enter Try.func10, Try.ntmps10
      go_wp2_with fail
      refine (awake_any _).mono ?_
      rintro e w1 ⟨rfl, hb1⟩
      go_wp2_with fail
      refine (awake_any _).mono ?_
      rintro e w2 ⟨rfl, hb2⟩
      go_wp2_with fail
      go_ret
      exact ⟨rfl, ((hA00.still hb1).still hb2).below⟩
  · go_enter Try.func10, Try.ntmps10
    go_wp2_with fail
    refine (awake_any _).mono ?_
    rintro e w1 ⟨rfl, hb1⟩
    go_wp2_with fail
    refine (awake_any _).mono ?_
    rintro e w2 ⟨rfl, hb2⟩
    go_wp2_with fail
    go_ret
    exact ⟨rfl, ((hA00.still hb1).still hb2).below⟩
end Go.Proofs.Ytabmmampgmcibaa.W
