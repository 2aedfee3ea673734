/- ArenaAll, the walk: for any Salt, numbers and drops the law returns true and changes nothing. -/
import Derived.Test.YtabmmampgmcibaaAllA
import Derived.Test.YtabmmampgmcibaaApp
import Derived.Test.YtabmmampgmcibaaSel
namespace Go.Proofs.Ytabmmampgmcibaa.W
open Go.RowKit
set_option linter.unusedVariables false
attribute [local go_sem] Oper.semAt_some

/-- the objects of the first loop -/
def LO1 (g3 g6 g7 g9 g10 gB : Nat) (A : Ar Int) (sv fv : Value) (n last : Int) : List Ob :=
  [bk gB [.pointer (some ⟨g7, 0, none⟩)] 82, bk g9 [.int .i64 n] 3, bk g10 [.int .i64 last] 3, arI g7 A sv fv, bk g6 [.bool false] 4, bk g3 [.int .i64 A.b, .int .i64 A.s] 23]

/-- the objects of the second loop -/
def LO2 (g6 g7 g9 g16 g17 gB : Nat) (A : Ar Int) (sv fv : Value) (k st n : Int) (u : Bool) : List Ob :=
  [bk gB [.pointer (some ⟨g7, 0, none⟩)] 82, bk g17 [.int .i64 k] 3, bk g16 [.int .i64 st] 3, bk g9 [.int .i64 n] 3, arI g7 A sv fv, bk g6 [.bool u] 4]

set_option maxRecDepth 100000 in
set_option maxHeartbeats 40000000 in
theorem all_law (b s : Int) (la da : Option Addr) (ln lc dn dc : Nat) (f d : Nat → Int) (w : World) (hl : In w la ln (fun k => .int .i16 (f k))) (hd : In w da dn (fun k => .int .u8 (d k)))
    (hf1 : ∀ k, -32768 ≤ f k) (hf2 : ∀ k, f k ≤ 32767) (hd1 : ∀ k, 0 ≤ d k) (hd2 : ∀ k, d k ≤ 255) :
    Calls Try.prog 9 #[.agg #[.int .i64 b, .int .i64 s], .slice la ln lc, .slice da dn dc] w fun e w' => e = .returned (.bool true) ∧ Below w.heap.size w w' := by
  have HL := Lib.hid hl
  have HD := Lib.hid hd
  have HF1 := Lib.hid hf1
  have HF2 := Lib.hid hf2
  have HD1 := Lib.hid hd1
  have HD2 := Lib.hid hd2
  clear hl hd hf1 hf2 hd1 hd2
  have hA00 := ((All.start w).newBkA w.heap.size rfl [.int .i64 b, .int .i64 s] 23).newBkA (w.heap.size + 1) (by simp) [.bool false] 4
  by_cases hn : ln ≤ 100
  · have hnb : decide ((100 : Int) < (ln : Int)) = false := decide_eq_false (by omega)
    by_cases hm : dn ≤ 100
    · have hmb : decide ((100 : Int) < (dn : Int)) = false := decide_eq_false (by omega)
      refine (callsIn_wide (n := 8)).1 ?_
      refine callsIn_of_wp_marks Try.func9 rfl trivial ?_ rfl
      simp only [Try.ntmps9, List.size_toArray, List.length_cons, List.length_nil, Nat.reduceAdd, Nat.reduceSub, Array.replicate_succ, Array.replicate_zero, List.push_toArray, List.append_toArray, List.nil_append, List.cons_append]
      gi_wp2_with fail
      refine ⟨trivial, (callsIn_wide.2 (awake_any _)).mono ?_⟩
      rintro e w1 ⟨rfl, hb1⟩
      have hA1 := hA00.still hb1
      have k3 : Blk w1 w.heap.size [.int .i64 b, .int .i64 s] 23 := hA1.P _ (List.mem_of_getElem? (i := 1) (by rfl))
      have p0 := k3.cell 0
      have p1 := k3.cell 1
      simp only [List.getElem?_cons_zero, List.getElem?_cons_succ] at p0 p1
      have HA1 := Lib.hid hA1
      clear hA00 hA1 k3 hb1
      gi_wp2_with fail
      refine ⟨trivial, (callsIn_wide.2 (filled_any b s la da ln lc dn dc f d w1 (HL.out.still HA1.out.below) (HD.out.still HA1.out.below) (by omega) (by omega) HF1.out HF2.out HD1.out HD2.out)).mono ?_⟩
      rintro e w2 ⟨sv, fv, gv, rfl, hA2⟩
      have hA3 := HA1.out.after hA2
      obtain ⟨sa, sc, rfl⟩ := own_shape hA2.head
      obtain ⟨fa, fc, rfl⟩ := own_shape hA2.tail.head
      have hg := fl_good b s f ln d dn
      have hln := fl_len b s f ln d dn
      have hbb := fl_b b s f ln d dn
      have hss := fl_s b s f ln d dn
      unfold arV
      generalize fl b s f ln d dn = A at *
      subst hbb hss
      simp only [List.cons_append, List.nil_append] at hA3
      have hA4 : All w.heap.size w (parts A (.slice sa A.slots.length sc) (.slice fa A.free.length fc) ++ _) w2 := hA3
      have hA5 := hA4.ofParts
      have hA6 := (hA5.newBkA (w2.heap.size + 1) (by simp) [.int .i64 0] 3).newBkA (w2.heap.size + 1 + 1) (by simp) [.int .i64 (-1)] 3
      have hA7 := hA6.newBkA (w2.heap.size + 1 + 1 + 1) (by simp) [.pointer (some ⟨w2.heap.size, 0, none⟩)] 82
      have HG := Lib.hid hg
      have HLN := Lib.hid hln
      have HA7 := Lib.hid hA7
      clear hA2 hA3 hA4 hA5 hA6 hA7 hg hln HA1 p0 p1
      gi_wp2_with fail
      refine ⟨trivial, (callsIn_wide.2 (all_any _ _)).mono ?_⟩
      rintro e w3 ⟨rfl, rfl⟩
      gi_wp2_with fail
      have HA8 : Hid (All w.heap.size w (LO1 w.heap.size (w.heap.size + 1) w2.heap.size (w2.heap.size + 1) (w2.heap.size + 1 + 1) (w2.heap.size + 1 + 1 + 1) A (.slice sa A.slots.length sc) (.slice fa A.free.length fc) 0 (-1)) _) := Lib.hid (HA7.out.sel [0, 2, 1, 3, 5, 6] (by decide))
      have hz : ((((w2.alloc (.cells #[.int .i64 A.b, .int .i64 A.s, .slice sa A.slots.length sc, .slice fa A.free.length fc, .int .i64 A.live] 32)).alloc (.cells #[.int .i64 0] 3)).alloc (.cells #[.int .i64 (-1)] 3)).alloc (.cells #[.pointer (some ⟨w2.heap.size, 0, none⟩)] 82)).heap.size = w2.heap.size + 1 + 1 + 1 + 1 := by simp
      clear HA7
      generalize ((((w2.alloc (.cells #[.int .i64 A.b, .int .i64 A.s, .slice sa A.slots.length sc, .slice fa A.free.length fc, .int .i64 A.live] 32)).alloc (.cells #[.int .i64 0] 3)).alloc (.cells #[.int .i64 (-1)] 3)).alloc (.cells #[.pointer (some ⟨w2.heap.size, 0, none⟩)] 82)) = W0 at *
      generalize w2.heap.size = g7 at *
      have hAt : AtI W0 g7 A (.slice sa A.slots.length sc) (.slice fa A.free.length fc) := HA8.out.P (arI g7 A _ _) (List.mem_of_getElem? (i := 3) (by rfl))
      have hbB : Blk W0 (g7 + 1 + 1 + 1) [.pointer (some ⟨g7, 0, none⟩)] 82 := HA8.out.head
      have hFt : ∀ k, Ft g7 (.slice sa A.slots.length sc) (.slice fa A.free.length fc) k → k < W0.heap.size ∧ k ≠ g7 + 1 ∧ k ≠ g7 + 1 + 1 := fun k hk =>
        ⟨(arI g7 A (.slice sa A.slots.length sc) (.slice fa A.free.length fc)).here W0 hAt k hk, fun e => apart_get HA8.out.apart (i := 1) (j := 3) (by decide) rfl rfl (g7 + 1) rfl (e ▸ hk), fun e => apart_get HA8.out.apart (i := 2) (j := 3) (by decide) rfl rfl (g7 + 1 + 1) rfl (e ▸ hk)⟩
      have hle := HA8.out.below.size
      have hg36 : w.heap.size + 1 < W0.heap.size := ((bk (w.heap.size + 1) [.bool false] 4).here W0 (HA8.out.P _ (List.mem_of_getElem? (i := 4) (by rfl))) _ rfl)
      have hZ : ∀ (n last : Int), ∀ o ∈ LO1 w.heap.size (w.heap.size + 1) g7 (g7 + 1) (g7 + 1 + 1) (g7 + 1 + 1 + 1) A (.slice sa A.slots.length sc) (.slice fa A.free.length fc) n last, ∀ k, o.F k → k < W0.heap.size := by
        intro n last o ho k hk
        simp only [LO1, List.mem_cons, List.not_mem_nil, or_false] at ho
        rcases ho with rfl | rfl | rfl | rfl | rfl | rfl
        · have : k = g7 + 1 + 1 + 1 := hk; omega
        · have : k = g7 + 1 := hk; omega
        · have : k = g7 + 1 + 1 := hk; omega
        · exact (hFt k hk).1
        · have : k = w.heap.size + 1 := hk; omega
        · have : k = w.heap.size := hk; omega
      have HZ := Lib.hid hZ
      have HFT := Lib.hid hFt
      have hsl : A.slots.length ≤ 1000 := by have := HLN.out; omega
      have hstop := all_stops (n := 7) (F := fun k => k = g7 + 1 ∨ k = g7 + 1 + 1) hsl (by omega) hbB hAt (fun k hk => by have := hFt k hk; omega) (by omega)
      refine rangeFunc_put (fun x => put4 39 40 11 12 (.int .i64 (hdl A.b A.s (x.1 : Nat))) (.int .i64 (valOf A x.1))) (by omega) (gf := 48) (lb := #[.pointer (some ⟨g7 + 1 + 1 + 1, 0, none⟩)]) rfl (enters_of Try.func48 (by kernel_rfl) rfl) hstop kpF_t kpF_b (fun _ => rfl)
        (fun pre W => All w.heap.size w (LO1 w.heap.size (w.heap.size + 1) g7 (g7 + 1) (g7 + 1 + 1) (g7 + 1 + 1 + 1) A (.slice sa A.slots.length sc) (.slice fa A.free.length fc) (pre.length : Nat) (lastOf pre)) W)
        (fun c pre _ => c = .ret ∧ ¬ Asc pre)
        (fun pre W W' row hs hg hr => hs.grown hg fun r e => ⟨by have := (hr r e).1; omega, fun o ho hf => by have := HZ.out _ _ o ho r hf; have := (hr r e).1; omega⟩)
        (fun _ _ _ _ _ hs _ _ => hs) HA8.out ?assign ?body ?done ?stop
      case assign =>
        intro l x W K hK
        simp only [put4, List.setIfInBounds_toArray, List.set_cons_zero, List.set_cons_succ] at hK
        simp only [encH]
        gi_wp2
        exact hK
      case body =>
        intro l pre x W hI hlt
        have HZ0 := Lib.hid hz
        have hpl : pre.length ≤ 1000 := by omega
        clear hz
        simp only [put4, List.setIfInBounds_toArray, List.set_cons_zero, List.set_cons_succ]
        have hI' : All _ _ _ _ := hI
        have b3 : Blk W w.heap.size [.int .i64 A.b, .int .i64 A.s] 23 := hI'.P _ (List.mem_of_getElem? (i := 5) (by rfl))
        have s0 := b3.cell 0
        have s1 := b3.cell 1
        simp only [List.getElem?_cons_zero, List.getElem?_cons_succ] at s0 s1
        obtain ⟨x1, x2, x3⟩ := slt_get x hsl
        have HC1 := Lib.hid (index_any A.b A.s (hdl A.b A.s (x.1 : Nat)) W (hdl_lo _ _ _) (hdl_hi _ _ _))
        rw [x1] at HC1
        have HX2 := Lib.hid x2
        have HX3 := Lib.hid x3
        have HI := Lib.hid hI'
        have HLT := Lib.hid hlt
        clear b3 x1 x2 x3 hI hI' hlt hAt hbB hFt hZ hstop
        gi_wp2_with fail
        refine ⟨trivial, (CallsIn.inRound l (callsIn_wide.2 HC1.out)).mono ?_⟩
        rintro e w4 ⟨rfl, hb4⟩
        have hA4 := HI.out.still hb4
        have hA4' : AtI w4 g7 A (.slice sa A.slots.length sc) (.slice fa A.free.length fc) := hA4.P (arI g7 A _ _) (List.mem_of_getElem? (i := 3) (by rfl))
        have hC2 := get_any hA4' (hdl A.b A.s (x.1 : Nat)) (hdl_lo _ _ _) (hdl_hi _ _ _) (by omega)
        rw [HX2.out, HX3.out] at hC2
        have HC2 := Lib.hid hC2
        have HA4 := Lib.hid hA4
        have HB4 := Lib.hid hb4
        clear hA4 hA4' hC2 hb4 s0 s1 HC1
        gi_wp2_with fail
        refine ⟨trivial, (CallsIn.inRound l (callsIn_wide.2 HC2.out)).mono ?_⟩
        rintro e w5 ⟨rfl, hb5⟩
        have hA5 := HA4.out.still hb5
        have b9 : Blk w5 (g7 + 1) [.int .i64 (pre.length : Nat)] 3 := hA5.P _ (List.mem_of_getElem? (i := 1) (by rfl))
        have b10 : Blk w5 (g7 + 1 + 1) [.int .i64 (lastOf pre)] 3 := hA5.P _ (List.mem_of_getElem? (i := 2) (by rfl))
        have b6 : Blk w5 (w.heap.size + 1) [.bool false] 4 := hA5.P _ (List.mem_of_getElem? (i := 4) (by rfl))
        have n0 := b9.cell 0
        have nf := b9.free
        have m0 := b10.cell 0
        have mf := b10.free
        have r0 := b6.cell 0
        have rf := b6.free
        simp only [List.getElem?_cons_zero] at n0 m0 r0
        have HB5 := Lib.hid hb5
        have HA5 := Lib.hid hA5
        clear hA5 b9 b10 b6 hb5 HC2 HA4
        simp only [Option.getD_some]
        obtain ⟨xi, hxv⟩ := x
        simp only at *
        by_cases hle : (xi : Int) ≤ lastOf pre
        · have HN := Lib.hid (asc_no (x := ⟨xi, hxv⟩) hle)
          gi_wp2_with fail
          exact ⟨(keeps_below HB4.out).trans ((keeps_below HB5.out).trans (KeepsOthers.setCell _ _ _)), rfl, HN.out⟩
        · gi_wp2_with fail
          have hz := HZ0.out
          have hWW : W0.heap.size ≤ W.heap.size := by have := (show Blk _ _ _ _ from HI.out.head).lt; omega
          have hK4 : KpF W0.heap.size (fun k => k = g7 + 1 ∨ k = g7 + 1 + 1) W w4 := kpF_below hWW HB4.out
          have hK5 : KpF W0.heap.size (fun k => k = g7 + 1 ∨ k = g7 + 1 + 1) w4 w5 := kpF_below (Nat.le_trans hWW HB4.out.size) HB5.out
          refine ⟨(keeps_below HB4.out).trans ((keeps_below HB5.out).trans ((KeepsOthers.setCell _ _ _).trans (KeepsOthers.setCell _ _ _))), kpF_t hK4 (kpF_t hK5 (kpF_t (kpF_set ⟨g7 + 1 + 1, 0, none⟩ _ (.inr rfl)) (kpF_set ⟨g7 + 1, 0, none⟩ _ (.inl rfl)))), ?_⟩
          show All _ _ (LO1 _ _ _ _ _ _ _ _ _ (((pre ++ [⟨xi, hxv⟩] : List (Slt A)).length : Nat) : Int) (lastOf (pre ++ [⟨xi, hxv⟩]))) _
          rw [lastOf_snoc, show ((((pre ++ [⟨xi, hxv⟩] : List (Slt A)).length : Nat)) : Int) = (pre.length : Int) + 1 by simp]
          exact (HA5.out.setBk [_, _] 0 (.int .i64 (xi : Nat))).setBk [_] 0 (.int .i64 ((pre.length : Int) + 1))
      case done =>
        rintro D xs W hD rfl hI hK
        have HZ0 := Lib.hid hz
        clear hz hAt hbB hFt hZ hstop
        have hI' : All _ _ _ _ := hI
        rw [came_live HG.out] at hI'
        have b9 : Blk W (g7 + 1) [.int .i64 A.live] 3 := hI'.P _ (List.mem_of_getElem? (i := 1) (by rfl))
        have n0 := b9.cell 0
        simp only [List.getElem?_cons_zero] at n0
        have hAt : AtI W g7 A (.slice sa A.slots.length sc) (.slice fa A.free.length fc) := hI'.P (arI g7 A _ _) (List.mem_of_getElem? (i := 3) (by rfl))
        have HAt := Lib.hid hAt
        have HI := Lib.hid hI'
        have HK := Lib.hid hK
        have HDD := Lib.hid hD
        clear b9 hAt hI hI' hK hD
        gi_wp2_with fail
        have n9 := World.block_lt_of_cell? _ _ n0
        have y0 := fun x : InS (BlS W) => (RowKit.Below.cell x.h (p := ⟨g7 + 1, 0, none⟩) n9).trans n0
        have hne : Nonempty (InS (BlS W)) := ⟨⟨W, Below.refl _ _⟩⟩
        refine reg_mI ⟨BlS W, fun _ _ w => BlS W w, fun _ => .int .i64 A.live, fun _ _ => undef, fun _ => [], fun _ => 0⟩ 3 (by kernel_rfl) (by kernel_rfl) (fun _ _ _ h => h) (fun _ _ w cs ty h => RowKit.Below.alloc h h.size _) (fun _ _ _ _ _ h => h) ((Below.refl _ _).drew) ?_
        simp only [List.take_succ_cons, List.take_zero, List.drop_succ_cons, List.drop_zero]
        repeat (first
          | (refine m_held (by rfl) (by rfl) (fun K hK => ?_); go_big_quiet_step (fail); refine wpQuiet_nil ?_; refine hK.out _ ?_; clear hK K)
          | (refine m_skip (by rfl) ?_; simp only [Act.put, List.setIfInBounds_toArray, List.set_cons_zero, List.set_cons_succ]))
        refine m_call (.int .i64 A.live) rfl (by rfl) (by rfl) (fun w => by go_simp; exact ⟨rfl, rfl⟩) ?_ ?_
        · intro X w8 h8
          refine (len_any (HAt.out.below h8)).mono ?_
          rintro e w9 ⟨rfl, rfl⟩
          exact ⟨rfl, h8⟩
        simp only [Act.put, List.setIfInBounds_toArray, List.set_cons_zero, List.set_cons_succ]
        repeat (first
          | (refine m_held (by rfl) (by rfl) (fun K hK => ?_); go_big_quiet_step (fail); refine wpQuiet_nil ?_; refine hK.out _ ?_; clear hK K)
          | (refine m_skip (by rfl) ?_; simp only [Act.put, List.setIfInBounds_toArray, List.set_cons_zero, List.set_cons_succ]))
        refine m_nil ?_
        intro w8 hw8
        have hb8 : Below W.heap.size W w8 := hw8
        have HI8 := Lib.hid (HI.out.still hb8)
        have HAt8 := Lib.hid (HAt.out.below hb8)
        have HK8 := Lib.hid ((keeps_below hb8).same D _ HK.out rfl)
        have b9 : Blk w8 (g7 + 1) [.int .i64 A.live] 3 := HI8.out.P _ (List.mem_of_getElem? (i := 1) (by rfl))
        have n0' := b9.cell 0
        simp only [List.getElem?_cons_zero] at n0'
        clear y0 hne hw8 hb8 n0 n9 b9
        gi_wp2_with fail
        refine ⟨trivial, (callsIn_wide.2 (all_any _ _)).mono ?_⟩
        rintro e w9 ⟨rfl, rfl⟩
        gi_wp2_with fail
        have hst0 : 0 ≤ (dn : Int) % 7 := Int.emod_nonneg _ (by omega)
        have hst1 : (dn : Int) % 7 < 7 := Int.emod_lt_of_pos _ (by omega)
        have hI9 := ((HI8.out.newBkA w8.heap.size rfl [.int .i64 ((dn : Int) % 7)] 3).newBkA (w8.heap.size + 1) (by simp) [.int .i64 0] 3).newBkA (w8.heap.size + 1 + 1) (by simp) [.pointer (some ⟨g7, 0, none⟩)] 82
        have HI9 : Hid (All w.heap.size w (LO2 (w.heap.size + 1) g7 (g7 + 1) w8.heap.size (w8.heap.size + 1) (w8.heap.size + 1 + 1) A (.slice sa A.slots.length sc) (.slice fa A.free.length fc) 0 ((dn : Int) % 7) A.live false) _) := Lib.hid (hI9.sel [0, 1, 2, 4, 6, 7] (by decide))
        have hDk : w8.heap[D]? = some (.deferred (some [])) := HK8.out
        have hDl : D < w8.heap.size := (Array.getElem?_eq_some_iff.1 hDk).1
        have hK9 : (((w8.alloc (.cells #[.int .i64 ((dn : Int) % 7)] 3)).alloc (.cells #[.int .i64 0] 3)).alloc (.cells #[.pointer (some ⟨g7, 0, none⟩)] 82)).heap[D]? = some (.deferred (some [])) :=
          (((keeps_below ((Below.refl _ _).alloc (Nat.le_refl _) _)).trans (keeps_below ((Below.refl _ _).alloc (Nat.le_refl _) _))).trans (keeps_below ((Below.refl _ _).alloc (Nat.le_refl _) _))).same D _ hDk rfl
        have hz9 : (((w8.alloc (.cells #[.int .i64 ((dn : Int) % 7)] 3)).alloc (.cells #[.int .i64 0] 3)).alloc (.cells #[.pointer (some ⟨g7, 0, none⟩)] 82)).heap.size = w8.heap.size + 1 + 1 + 1 := by simp
        clear hI9 HI8 HI HK8 HK HAt hDk n0'
        generalize (((w8.alloc (.cells #[.int .i64 ((dn : Int) % 7)] 3)).alloc (.cells #[.int .i64 0] 3)).alloc (.cells #[.pointer (some ⟨g7, 0, none⟩)] 82)) = W9 at *
        have hAt9 : AtI W9 g7 A (.slice sa A.slots.length sc) (.slice fa A.free.length fc) := HI9.out.P (arI g7 A _ _) (List.mem_of_getElem? (i := 4) (by rfl))
        have hbB9 : Blk W9 (w8.heap.size + 1 + 1) [.pointer (some ⟨g7, 0, none⟩)] 82 := HI9.out.head
        have hFt9 : ∀ k, Ft g7 (.slice sa A.slots.length sc) (.slice fa A.free.length fc) k → k < W9.heap.size ∧ k ≠ w8.heap.size + 1 := fun k hk =>
          ⟨(arI g7 A (.slice sa A.slots.length sc) (.slice fa A.free.length fc)).here W9 hAt9 k hk, fun e => apart_get HI9.out.apart (i := 1) (j := 4) (by decide) rfl rfl (w8.heap.size + 1) rfl (e ▸ hk)⟩
        have hle9 := HI9.out.below.size
        have hg9 : g7 + 1 < W9.heap.size := ((bk (g7 + 1) [.int .i64 A.live] 3).here W9 (HI9.out.P _ (List.mem_of_getElem? (i := 3) (by rfl))) _ rfl)
        have hg69 : w.heap.size + 1 < W9.heap.size := ((bk (w.heap.size + 1) [.bool false] 4).here W9 (HI9.out.P _ (List.mem_of_getElem? (i := 5) (by rfl))) _ rfl)
        have hZ9 : ∀ (k st n : Int) (u : Bool), ∀ o ∈ LO2 (w.heap.size + 1) g7 (g7 + 1) w8.heap.size (w8.heap.size + 1) (w8.heap.size + 1 + 1) A (.slice sa A.slots.length sc) (.slice fa A.free.length fc) k st n u, ∀ k, o.F k → k < W9.heap.size := by
          intro k st n u o ho k hk
          simp only [LO2, List.mem_cons, List.not_mem_nil, or_false] at ho
          rcases ho with rfl | rfl | rfl | rfl | rfl | rfl
          · have : k = w8.heap.size + 1 + 1 := hk; omega
          · have : k = w8.heap.size + 1 := hk; omega
          · have : k = w8.heap.size := hk; omega
          · have : k = g7 + 1 := hk; omega
          · exact (hFt9 k hk).1
          · have : k = w.heap.size + 1 := hk; omega
        have HZ9 := Lib.hid hZ9
        have hstop9 := all_stops (n := 7) (F := fun k => k = w8.heap.size + 1) hsl (by omega) hbB9 hAt9 (fun k hk => (hFt9 k hk).2) (by omega)
        generalize hstv : (dn : Int) % 7 = st at *
        refine rangeFunc_put (fun x => put4 71 72 71 72 (.int .i64 (hdl A.b A.s (x.1 : Nat))) (.int .i64 (valOf A x.1))) (by omega) (gf := 48) (lb := #[.pointer (some ⟨w8.heap.size + 1 + 1, 0, none⟩)]) rfl (enters_of Try.func48 (by kernel_rfl) rfl) hstop9 kpF_t kpF_b (fun _ => rfl)
          (fun pre W => All w.heap.size w (LO2 (w.heap.size + 1) g7 (g7 + 1) w8.heap.size (w8.heap.size + 1) (w8.heap.size + 1 + 1) A (.slice sa A.slots.length sc) (.slice fa A.free.length fc) (pre.length : Nat) st A.live false) W ∧ ((pre.length : Nat) : Int) ≤ st ∧ W.heap[D]? = some (.deferred (some [])))
          (fun c pre W => c = .exit 2 ∧ All w.heap.size w (LO2 (w.heap.size + 1) g7 (g7 + 1) w8.heap.size (w8.heap.size + 1) (w8.heap.size + 1 + 1) A (.slice sa A.slots.length sc) (.slice fa A.free.length fc) st st A.live false) W ∧ ((pre.length : Nat) : Int) = st + 1 ∧ W.heap[D]? = some (.deferred (some [])))
          (fun pre W W' row hs hg hr => ⟨hs.1.grown hg fun r e => ⟨by have := (hr r e).1; omega, fun o ho hf => by have := HZ9.out _ _ _ _ o ho r hf; have := (hr r e).1; omega⟩, hs.2.1, (hg.block D (Array.getElem?_eq_some_iff.1 hs.2.2).1 (fun e => by have := (hr D e.symm).1; omega)).trans hs.2.2⟩)
          (fun c pre W W' row hs hg hr => ⟨hs.1, hs.2.1.grown hg fun r e => ⟨by have := (hr r e).1; omega, fun o ho hf => by have := HZ9.out _ _ _ _ o ho r hf; have := (hr r e).1; omega⟩, hs.2.2.1, (hg.block D (Array.getElem?_eq_some_iff.1 hs.2.2.2).1 (fun e => by have := (hr D e.symm).1; omega)).trans hs.2.2.2⟩)
          ⟨HI9.out, by simpa using hst0, hK9⟩ ?assign2 ?body2 ?done2 ?stop2
        case assign2 =>
          intro l x W K hK
          simp only [put4, List.setIfInBounds_toArray, List.set_cons_zero, List.set_cons_succ] at hK
          gi_wp2
          simp only [encH, List.zip_toArray, List.zip_cons_cons, List.zip_nil_right, List.foldl_toArray, List.foldl_cons, List.foldl_nil, List.setIfInBounds_toArray, List.set_cons_zero, List.set_cons_succ]
          exact hK
        case body2 =>
          rintro l pre x W ⟨hI, hps, hDK⟩ hlt
          simp only [put4, List.setIfInBounds_toArray, List.set_cons_zero, List.set_cons_succ]
          have HZ1 := Lib.hid hz9
          have hpl : pre.length ≤ 1000 := by omega
          have b17 : Blk W (w8.heap.size + 1) [.int .i64 (pre.length : Nat)] 3 := hI.P _ (List.mem_of_getElem? (i := 1) (by rfl))
          have b16 : Blk W w8.heap.size [.int .i64 st] 3 := hI.P _ (List.mem_of_getElem? (i := 2) (by rfl))
          have k0 := b17.cell 0
          have kf := b17.free
          have s0 := b16.cell 0
          simp only [List.getElem?_cons_zero] at k0 s0
          have HI := Lib.hid hI
          have HDK := Lib.hid hDK
          clear b17 b16 hI hDK hlt hz9 hAt9 hbB9 hFt9 hZ9 hstop9 hstv
          by_cases hks : ((pre.length : Nat) : Int) = st
          · have e1 : (((pre.length : Nat) : Int) == st) = true := by simpa using hks
            have HKS := Lib.hid hks
            clear hks
            gi_wp2_with fail
            refine ⟨KeepsOthers.refl _, rfl, ?_, ?_, HDK.out⟩
            · have h := HI.out
              rw [HKS.out] at h
              exact h
            · rw [← HKS.out]; simp
          · have e1 : (((pre.length : Nat) : Int) == st) = false := by simpa using hks
            have hkl : ((pre.length : Nat) : Int) + 1 ≤ st := by omega
            have e3 : (((pre ++ [x] : List (Slt A)).length : Nat) : Int) = (pre.length : Int) + 1 := by simp
            have E3 := Lib.hid e3
            clear hks e3
            gi_wp2_with fail
            refine ⟨KeepsOthers.setCell _ _ _, kpF_set ⟨w8.heap.size + 1, 0, none⟩ _ rfl, ?_⟩
            show All _ _ (LO2 _ _ _ _ _ _ _ _ _ (((pre ++ [x] : List (Slt A)).length : Nat) : Int) _ _ _) _ ∧ (((pre ++ [x] : List (Slt A)).length : Nat) : Int) ≤ st ∧ _
            rw [E3.out]
            exact ⟨HI.out.setBk [_] 0 (.int .i64 ((pre.length : Int) + 1)), hkl, (KeepsOthers.setCell _ _ _).same D _ HDK.out rfl⟩
        case done2 =>
          rintro D2 xs W hD2 rfl ⟨hI, hps, hDK⟩ hK2
          rw [came_live HG.out] at hI hps
          have HZ1 := Lib.hid hz9
          have b17 : Blk W (w8.heap.size + 1) [.int .i64 A.live] 3 := hI.P _ (List.mem_of_getElem? (i := 1) (by rfl))
          have b16 : Blk W w8.heap.size [.int .i64 st] 3 := hI.P _ (List.mem_of_getElem? (i := 2) (by rfl))
          have b9 : Blk W (g7 + 1) [.int .i64 A.live] 3 := hI.P _ (List.mem_of_getElem? (i := 3) (by rfl))
          have b6 : Blk W (w.heap.size + 1) [.bool false] 4 := hI.P _ (List.mem_of_getElem? (i := 5) (by rfl))
          have k0 := b17.cell 0
          have s0 := b16.cell 0
          have n0 := b9.cell 0
          have r0 := b6.cell 0
          have rf := b6.free
          simp only [List.getElem?_cons_zero] at k0 s0 n0 r0
          have HI := Lib.hid hI
          have HDK := Lib.hid hDK
          have HK2 := Lib.hid hK2
          clear b17 b16 b9 b6 hI hDK hK2 hz9 hAt9 hbB9 hFt9 hZ9 hstop9 hstv
          have HRW := Lib.hid (HI.out.setBk [_, _, _, _, _] 0 (.bool true))
          gi_wp2_with fail
          all_goals
            try rw [show (A.live == st) = true from beq_iff_eq.2 (by omega)]
            have hD0 := HDD.out
            have hz9 := HZ1.out
            refine two_marks (by omega) ((KeepsOthers.setCell _ _ _).same D2 _ HK2.out rfl) ((KeepsOthers.setCell _ _ _).same D _ HDK.out rfl) ?_
            have hk2 := (KeepsOthers.setCell W ⟨w.heap.size + 1, 0, none⟩ (.bool true)).same D2 _ HK2.out rfl
            have hk1 := (KeepsOthers.setCell W ⟨w.heap.size + 1, 0, none⟩ (.bool true)).same D _ HDK.out rfl
            have hk1' := (World.putObj_heap_other (w := W.setCell ⟨w.heap.size + 1, 0, none⟩ (.bool true)) (o := .deferred none) (show D ≠ D2 by omega)).trans hk1
            have b6' : Blk (W.setCell ⟨w.heap.size + 1, 0, none⟩ (.bool true)) (w.heap.size + 1) [.bool true] 4 := HRW.out.P _ (List.mem_of_getElem? (i := 5) (by rfl))
            have c5 := b6'.cell 0
            simp only [List.getElem?_cons_zero] at c5
            have c6 := cell_kept (cell_kept c5 (grownBy_putObj' _ D2 (.deferred none)) (fun r e => by cases e; exact ⟨_, hk2, rfl⟩)) (grownBy_putObj' _ D (.deferred none)) (fun r e => by cases e; exact ⟨_, hk1', rfl⟩)
            have hbl := HRW.out.below
            have hd2 := (Array.getElem?_eq_some_iff.1 hk2).1
            have hd1 := (Array.getElem?_eq_some_iff.1 hk1').1
            refine ⟨.bool true, ?_, rfl, below_put _ (below_put _ hbl (by omega) hd2) (by omega) hd1⟩
            simp [results, Try.f9, go_sem, c6]
        case stop2 =>
          rintro D2 c pre W hD2 ⟨k, hk, rfl⟩ ⟨rfl, hI, hpl, hDK⟩ hK2
          have hmo := came_mono A hk
          have hlv := came_live HG.out
          have HZ1 := Lib.hid hz9
          have b17 : Blk W (w8.heap.size + 1) [.int .i64 st] 3 := hI.P _ (List.mem_of_getElem? (i := 1) (by rfl))
          have b16 : Blk W w8.heap.size [.int .i64 st] 3 := hI.P _ (List.mem_of_getElem? (i := 2) (by rfl))
          have b9 : Blk W (g7 + 1) [.int .i64 A.live] 3 := hI.P _ (List.mem_of_getElem? (i := 3) (by rfl))
          have b6 : Blk W (w.heap.size + 1) [.bool false] 4 := hI.P _ (List.mem_of_getElem? (i := 5) (by rfl))
          have k0 := b17.cell 0
          have s0 := b16.cell 0
          have n0 := b9.cell 0
          have r0 := b6.cell 0
          have rf := b6.free
          have hsl2 : st < A.live := by omega
          simp only [List.getElem?_cons_zero] at k0 s0 n0 r0
          have HI := Lib.hid hI
          have HDK := Lib.hid hDK
          have HK2 := Lib.hid hK2
          clear b17 b16 b9 b6 hI hDK hK2 hz9 hAt9 hbB9 hFt9 hZ9 hstop9 hstv hmo hlv hpl
          have HRW := Lib.hid (HI.out.setBk [_, _, _, _, _] 0 (.bool true))
          gi_wp2_with fail
          all_goals
            have hD0 := HDD.out
            have hz9 := HZ1.out
            refine two_marks (by omega) ((KeepsOthers.setCell _ _ _).same D2 _ HK2.out rfl) ((KeepsOthers.setCell _ _ _).same D _ HDK.out rfl) ?_
            have hk2 := (KeepsOthers.setCell W ⟨w.heap.size + 1, 0, none⟩ (.bool true)).same D2 _ HK2.out rfl
            have hk1 := (KeepsOthers.setCell W ⟨w.heap.size + 1, 0, none⟩ (.bool true)).same D _ HDK.out rfl
            have hk1' := (World.putObj_heap_other (w := W.setCell ⟨w.heap.size + 1, 0, none⟩ (.bool true)) (o := .deferred none) (show D ≠ D2 by omega)).trans hk1
            have b6' : Blk (W.setCell ⟨w.heap.size + 1, 0, none⟩ (.bool true)) (w.heap.size + 1) [.bool true] 4 := HRW.out.P _ (List.mem_of_getElem? (i := 5) (by rfl))
            have c5 := b6'.cell 0
            simp only [List.getElem?_cons_zero] at c5
            have c6 := cell_kept (cell_kept c5 (grownBy_putObj' _ D2 (.deferred none)) (fun r e => by cases e; exact ⟨_, hk2, rfl⟩)) (grownBy_putObj' _ D (.deferred none)) (fun r e => by cases e; exact ⟨_, hk1', rfl⟩)
            have hbl := HRW.out.below
            have hd2 := (Array.getElem?_eq_some_iff.1 hk2).1
            have hd1 := (Array.getElem?_eq_some_iff.1 hk1').1
            refine ⟨.bool true, ?_, rfl, below_put _ (below_put _ hbl (by omega) hd2) (by omega) hd1⟩
            simp [results, Try.f9, go_sem, c6]
      case stop =>
        rintro D c pre W hD ⟨k, hk, rfl⟩ ⟨rfl, hna⟩ hK
        exact absurd (came_asc A k) hna
    · have hmb : decide ((100 : Int) < (dn : Int)) = true := decide_eq_true (by omega)
      go_enter Try.func9, Try.ntmps9
      go_wp2_with fail
      refine (awake_any _).mono ?_
      rintro e w1 ⟨rfl, hb1⟩
      have HA1 := Lib.hid (hA00.still hb1)
      clear hb1 hA00
      go_wp2_with fail
      refine (awake_any _).mono ?_
      rintro e w2 ⟨rfl, hb2⟩
      have HA2 := Lib.hid (HA1.out.still hb2)
      have b6 : Blk w2 (w.heap.size + 1) [.bool false] 4 := HA2.out.P _ (List.mem_of_getElem? (i := 0) (by rfl))
      have r0 := b6.cell 0
      have rf := b6.free
      have rl := b6.lt
      simp only [List.getElem?_cons_zero] at r0
      have HRW := Lib.hid (HA2.out.setBk [] 0 (.bool true))
      clear b6 hb2 HA1
      go_wp2_with fail
      exact bodyPost_ret (v := .bool true) (by simp [results, Try.results9, go_sem, *]) rfl ⟨rfl, HRW.out.below⟩
  · have hnb : decide ((100 : Int) < (ln : Int)) = true := decide_eq_true (by omega)
    go_enter Try.func9, Try.ntmps9
    go_wp2_with fail
    refine (awake_any _).mono ?_
    rintro e w1 ⟨rfl, hb1⟩
    have HA1 := Lib.hid (hA00.still hb1)
    clear hb1 hA00
    go_wp2_with fail
    refine (awake_any _).mono ?_
    rintro e w2 ⟨rfl, hb2⟩
    have HA2 := Lib.hid (HA1.out.still hb2)
    have b6 : Blk w2 (w.heap.size + 1) [.bool false] 4 := HA2.out.P _ (List.mem_of_getElem? (i := 0) (by rfl))
    have r0 := b6.cell 0
    have rf := b6.free
    have rl := b6.lt
    simp only [List.getElem?_cons_zero] at r0
    have HRW := Lib.hid (HA2.out.setBk [] 0 (.bool true))
    clear b6 hb2 HA1
    go_wp2_with fail
    exact bodyPost_ret (v := .bool true) (by simp [results, Try.results9, go_sem, *]) rfl ⟨rfl, HRW.out.below⟩
end Go.Proofs.Ytabmmampgmcibaa.W
