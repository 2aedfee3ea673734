/- The reference's arena (Model): the contract of Len; and that of the law's 'same'. -/
import Derived.Test.YtabmmampgmcibaaModelB
namespace Go.Proofs.Ytabmmampgmcibaa.W
open Go.RowKit
set_option linter.unusedVariables false

theorem count_snoc (l : List (Bool × Int)) (k : Nat) (u : Bool) (v : Int) (h : l[k]? = some (u, v)) : (l.take (k + 1)).countP (·.1) = (l.take k).countP (·.1) + (if u = true then 1 else 0) := by
  rw [List.take_add_one, h]
  cases u <;> simp [List.countP_append]
theorem count_le (l : List (Bool × Int)) (k : Nat) : (l.take k).countP (·.1) ≤ k := Nat.le_trans List.countP_le_length (List.length_take_le _ _)

set_option maxRecDepth 100000 in
theorem mlen_any {w : World} {b s : Int} {l : List (Bool × Int)} {cv fv : Value} (h : Own w 80 2 cv l.length (scells icell l)) (hl : l.length ≤ 1000000) :
    Calls Try.prog 47 #[mdV b s cv fv] w fun e w' => e = .returned (.int .i64 ((l.countP (·.1) : Nat) : Int)) ∧ Below w.heap.size w w' := by
  obtain ⟨sa, sc, rfl⟩ := own_shape h
  have hB : Below w.heap.size w (w.alloc (.cells #[.int .i64 b, .int .i64 s, .slice sa l.length sc, fv] 68)) := (Below.refl _ _).alloc (Nat.le_refl _) _
  have HS := Lib.hid (own_below h hB)
  have HB := Lib.hid hB
  clear h hB
  go_enter Try.func47, Try.ntmps47
  go_wp2_with fail
  go_loop [3, 8] (fun n i => ∃ k : Nat, k ≤ l.length ∧ i = .int .i64 (k : Int) ∧ n = .int .i64 (((l.take k).countP (·.1) : Nat) : Int)) (fun _ i => l.length - (intOf i).toNat)
  case atStart => exact ⟨0, Nat.zero_le _, rfl, by simp⟩
  case round =>
    obtain ⟨k, hk, rfl, rfl⟩ := hrel
    by_cases hlt : k < l.length
    · obtain ⟨x, hx⟩ : ∃ x, l[k]? = some x := ⟨_, List.getElem?_eq_getElem hlt⟩
      obtain ⟨xu, xv⟩ := x
      obtain ⟨sg, sc', he, _⟩ := own_some HS.out (by omega)
      simp only [Value.slice.injEq] at he
      obtain ⟨rfl, _, rfl⟩ := he
      have q0 := HS.out.cellAt (k * 2) (by omega)
      rw [(scells_used _ _ _ _ hx).1] at q0
      have HC := Lib.hid (count_snoc l k xu xv hx)
      have c1 := count_le l k
      clear hx
      generalize (l.take k).countP (·.1) = c at *
      cases xu
      · go_wp2_with fail
        go_round
        case rel => exact ⟨k + 1, by omega, by go_num, by rw [HC.out]; simp⟩
        case measure => simp [intOf]; omega
      · go_wp2_with fail
        go_round
        case rel => exact ⟨k + 1, by omega, by go_num, by rw [HC.out]; simp⟩
        case measure => simp [intOf]; omega
    · have hkl : k = l.length := by omega
      subst hkl
      have HT := Lib.hid (List.take_length (l := l))
      go_wp2_with fail
      go_ret
      exact ⟨rfl, HB.out⟩

/-- what 'same' looks at -/
def SmS (w : World) (g : Nat) (A : Ar Int) (sv fv cv mv : Value) (wr : World) : Prop :=
  AtI wr g A sv fv ∧ Own wr 80 2 cv A.slots.length (scells icell A.slots) ∧ Own wr 3 1 mv A.free.length (fcells A.free) ∧
  Blk wr w.heap.size [.int .i64 A.b, .int .i64 A.s, cv, mv] 68 ∧ Below w.heap.size w wr
theorem SmS.still {w wr w' : World} {g : Nat} {A : Ar Int} {sv fv cv mv : Value} (h : SmS w g A sv fv cv mv wr) (hb : Below wr.heap.size wr w') : SmS w g A sv fv cv mv w' :=
  ⟨h.1.below hb, own_below h.2.1 hb, own_below h.2.2.1 hb, h.2.2.2.1.below hb, bthen h.2.2.2.2 (hb.mono (Nat.le_refl _))⟩
theorem SmS.cells {w wr : World} {g : Nat} {A : Ar Int} {sv fv cv mv : Value} (h : SmS w g A sv fv cv mv wr) :
    wr.cell? ⟨g, 0, none⟩ = some (.int .i64 A.b) ∧ wr.cell? ⟨g, 1, none⟩ = some (.int .i64 A.s) ∧ wr.cell? ⟨g, 2, none⟩ = some sv ∧ wr.cell? ⟨g, 3, none⟩ = some fv ∧ wr.cell? ⟨g, 4, none⟩ = some (.int .i64 A.live) ∧
    wr.cell? ⟨w.heap.size, 0, none⟩ = some (.int .i64 A.b) ∧ wr.cell? ⟨w.heap.size, 1, none⟩ = some (.int .i64 A.s) ∧ wr.cell? ⟨w.heap.size, 2, none⟩ = some cv ∧ wr.cell? ⟨w.heap.size, 3, none⟩ = some mv :=
  ⟨h.1.blk.cell 0, h.1.blk.cell 1, h.1.blk.cell 2, h.1.blk.cell 3, h.1.blk.cell 4, h.2.2.2.1.cell 0, h.2.2.2.1.cell 1, h.2.2.2.1.cell 2, h.2.2.2.1.cell 3⟩

def SmF (w : World) (g : Nat) (A : Ar Int) (sv fv cv mv : Value) (n : Nat) (iv : Value) (wr : World) : Prop := ∃ k : Nat, k ≤ n ∧ iv = .int .i64 (k : Int) ∧ SmS w g A sv fv cv mv wr

set_option maxRecDepth 100000 in
set_option maxHeartbeats 2000000 in
theorem same_any {w : World} {g : Nat} {A : Ar Int} {sv fv cv mv : Value} (h : AtI w g A sv fv) (hc : Own w 80 2 cv A.slots.length (scells icell A.slots)) (hm : Own w 3 1 mv A.free.length (fcells A.free)) (hG : Good A) (hl : A.slots.length ≤ 1000000) :
    Calls Try.prog 40 #[.pointer (some ⟨g, 0, none⟩), mdV A.b A.s cv mv] w fun e w' => e = .returned (.bool true) ∧ Below w.heap.size w w' := by
  have hB : Below w.heap.size w (w.alloc (.cells #[.int .i64 A.b, .int .i64 A.s, cv, mv] 68)) := (Below.refl _ _).alloc (Nat.le_refl _) _
  have h0 : SmS w g A sv fv cv mv (w.alloc (.cells #[.int .i64 A.b, .int .i64 A.s, cv, mv] 68)) := ⟨h.below hB, own_below hc hB, own_below hm hB, Blk.new w [_, _, _, _] _, hB⟩
  obtain ⟨sa, sc, rfl⟩ := own_shape h.slots
  obtain ⟨fa, fc, rfl⟩ := own_shape h.free
  obtain ⟨ca, cc, rfl⟩ := own_shape hc
  obtain ⟨ma, mc, rfl⟩ := own_shape hm
  have hlive := hG.live
  have hcnt := hG.cnt
  have hfl : A.free.length ≤ 1000000 := by omega
  have HG := Lib.hid hG
  clear h hc hm hB hG
  go_enter Try.func40, Try.ntmps40
  go_wp2_with fail
  generalize w.alloc (.cells #[.int .i64 A.b, .int .i64 A.s, .slice ca A.slots.length cc, .slice ma A.free.length mc] 68) = W at h0 ⊢
  have hne : Nonempty (InS (SmS w g A (.slice sa A.slots.length sc) (.slice fa A.free.length fc) (.slice ca A.slots.length cc) (.slice ma A.free.length mc))) := ⟨⟨_, h0⟩⟩
  have x0 := fun x : InS (SmS w g A (.slice sa A.slots.length sc) (.slice fa A.free.length fc) (.slice ca A.slots.length cc) (.slice ma A.free.length mc)) => x.h.cells.1
  have x1 := fun x : InS (SmS w g A (.slice sa A.slots.length sc) (.slice fa A.free.length fc) (.slice ca A.slots.length cc) (.slice ma A.free.length mc)) => x.h.cells.2.1
  have x2 := fun x : InS (SmS w g A (.slice sa A.slots.length sc) (.slice fa A.free.length fc) (.slice ca A.slots.length cc) (.slice ma A.free.length mc)) => x.h.cells.2.2.1
  have x3 := fun x : InS (SmS w g A (.slice sa A.slots.length sc) (.slice fa A.free.length fc) (.slice ca A.slots.length cc) (.slice ma A.free.length mc)) => x.h.cells.2.2.2.1
  have x4 := fun x : InS (SmS w g A (.slice sa A.slots.length sc) (.slice fa A.free.length fc) (.slice ca A.slots.length cc) (.slice ma A.free.length mc)) => x.h.cells.2.2.2.2.1
  have x5 := fun x : InS (SmS w g A (.slice sa A.slots.length sc) (.slice fa A.free.length fc) (.slice ca A.slots.length cc) (.slice ma A.free.length mc)) => x.h.cells.2.2.2.2.2.1
  have x6 := fun x : InS (SmS w g A (.slice sa A.slots.length sc) (.slice fa A.free.length fc) (.slice ca A.slots.length cc) (.slice ma A.free.length mc)) => x.h.cells.2.2.2.2.2.2.1
  have x7 := fun x : InS (SmS w g A (.slice sa A.slots.length sc) (.slice fa A.free.length fc) (.slice ca A.slots.length cc) (.slice ma A.free.length mc)) => x.h.cells.2.2.2.2.2.2.2.1
  have x8 := fun x : InS (SmS w g A (.slice sa A.slots.length sc) (.slice fa A.free.length fc) (.slice ca A.slots.length cc) (.slice ma A.free.length mc)) => x.h.cells.2.2.2.2.2.2.2.2
  rw [hlive] at x4
  have HL := Lib.hid hlive
  clear hlive
  generalize hC : A.slots.countP (·.1) = c at *
  have HC := Lib.hid hC
  clear hC
  refine reg_st (SmS w g A (.slice sa A.slots.length sc) (.slice fa A.free.length fc) (.slice ca A.slots.length cc) (.slice ma A.free.length mc)) (fun _ => SmS w g A (.slice sa A.slots.length sc) (.slice fa A.free.length fc) (.slice ca A.slots.length cc) (.slice ma A.free.length mc)) (by kernel_rfl) (by kernel_rfl) (by kernel_rfl) (fun _ _ h => h) (h0.still ((Below.refl _ _).drew)) ?_
  repeat (first
    | (refine st_held (by rfl) (fun K hK => ?_); go_big_quiet_step (fail); refine wpQuiet_nil ?_; refine hK.out _ ?_; clear hK K)
    | (refine st_skip (by rfl) ?_; simp only [Act.put, List.setIfInBounds_toArray, List.set_cons_zero, List.set_cons_succ]))
  refine st_call (.int .i64 (c : Int)) (by rfl) (by rfl) (fun w => by go_simp; exact ⟨rfl, rfl⟩) ?_ ?_
  · rintro w1 h1
    refine (mlen_any (b := A.b) (s := A.s) h1.2.1 hl).mono ?_
    rintro e w2 ⟨rfl, h2⟩
    exact ⟨by rw [HC.out], h1.still h2⟩
  simp only [Act.put, List.setIfInBounds_toArray, List.set_cons_zero, List.set_cons_succ]
  repeat (first
    | (refine st_held (by rfl) (fun K hK => ?_); go_big_quiet_step (fail); refine wpQuiet_nil ?_; refine hK.out _ ?_; clear hK K)
    | (refine st_skip (by rfl) ?_; simp only [Act.put, List.setIfInBounds_toArray, List.set_cons_zero, List.set_cons_succ]))
  refine st_call (.int .i64 (c : Int)) (by rfl) (by rfl) (fun w => by go_simp; exact ⟨rfl, rfl⟩) ?_ ?_
  · rintro w1 h1
    refine (len_any h1.1).mono ?_
    rintro e w2 ⟨rfl, rfl⟩
    exact ⟨by rw [HL.out], h1⟩
  simp only [Act.put, List.setIfInBounds_toArray, List.set_cons_zero, List.set_cons_succ]
  repeat (first
    | (refine st_held (by rfl) (fun K hK => ?_); go_big_quiet_step (fail); refine wpQuiet_nil ?_; refine hK.out _ ?_; clear hK K)
    | (refine st_skip (by rfl) ?_; simp only [Act.put, List.setIfInBounds_toArray, List.set_cons_zero, List.set_cons_succ]))
  refine st_call (.int .i64 (c : Int)) (by rfl) (by rfl) (fun w => by go_simp; exact ⟨rfl, rfl⟩) ?_ ?_
  · rintro w1 h1
    refine (mlen_any (b := A.b) (s := A.s) h1.2.1 hl).mono ?_
    rintro e w2 ⟨rfl, h2⟩
    exact ⟨by rw [HC.out], h1.still h2⟩
  simp only [Act.put, List.setIfInBounds_toArray, List.set_cons_zero, List.set_cons_succ]
  repeat (first
    | (refine st_held (by rfl) (fun K hK => ?_); go_big_quiet_step (fail); refine wpQuiet_nil ?_; refine hK.out _ ?_; clear hK K)
    | (refine st_skip (by rfl) ?_; simp only [Act.put, List.setIfInBounds_toArray, List.set_cons_zero, List.set_cons_succ]))
  refine st_nil ?_
  rintro w1 h1
  clear x0 x1 x2 x3 x4 x5 x6 x7 x8 hne h0 HL HC hcnt
  obtain ⟨d0, d1, d2, d3, d4, d5, d6, d7, d8⟩ := h1.cells
  clear d0 d1 d2 d3 d4 d5 d6
  go_wp2_with fail
  go_loopw [55] (fun iv wr => SmF w g A (.slice sa A.slots.length sc) (.slice fa A.free.length fc) (.slice ca A.slots.length cc) (.slice ma A.free.length mc) A.free.length iv wr) (fun iv _ => A.free.length - (intOf iv).toNat)
  case atStart => exact ⟨0, Nat.zero_le _, rfl, h1⟩
  case round =>
    clear d7 d8 h1
    obtain ⟨k, hk, rfl, h1⟩ := hrel
    obtain ⟨d0, d1, d2, d3, d4, d5, d6, d7, d8⟩ := h1.cells
    by_cases hlt : k < A.free.length
    · obtain ⟨fg, fc', he, _⟩ := own_some h1.1.free (by omega)
      simp only [Value.slice.injEq] at he
      obtain ⟨rfl, _, rfl⟩ := he
      obtain ⟨mg, mc', he, _⟩ := own_some h1.2.2.1 (by omega)
      simp only [Value.slice.injEq] at he
      obtain ⟨rfl, _, rfl⟩ := he
      have q1 := h1.1.free.cellAt k (by omega)
      have q2 := h1.2.2.1.cellAt k (by omega)
      obtain ⟨y, hy⟩ : ∃ y : Int, (fcells A.free)[k]? = some (.int .i64 y) := ⟨((A.free[k] : Nat) : Int), by simp [fcells, hlt]⟩
      rw [hy] at q1 q2
      clear hy d0 d1 d4 d5 d6
      go_wp2_with fail
      go_quiet (fail)
      go_wp2_with fail
      go_roundw
      case rel => exact ⟨k + 1, by omega, by go_num, h1.still (Below.drewN (Below.refl _ _) _)⟩
      case measure => simp [intOf]; omega
    · clear d0 d1 d2 d3 d4 d5 d6 d8
      go_wp2_with fail
      go_loopw [75] (fun iv wr => SmF w g A (.slice sa A.slots.length sc) (.slice fa A.free.length fc) (.slice ca A.slots.length cc) (.slice ma A.free.length mc) A.slots.length iv wr) (fun iv _ => A.slots.length - (intOf iv).toNat)
      case atStart => exact ⟨0, Nat.zero_le _, rfl, h1⟩
      case round =>
        clear d7 h1 hlt hk
        obtain ⟨k, hk, rfl, h1⟩ := hrel
        obtain ⟨d0, d1, d2, d3, d4, d5, d6, d7, d8⟩ := h1.cells
        by_cases hlt : k < A.slots.length
        · obtain ⟨sg, sc', he, _⟩ := own_some h1.1.slots (by omega)
          simp only [Value.slice.injEq] at he
          obtain ⟨rfl, _, rfl⟩ := he
          obtain ⟨cg, cc', he, _⟩ := own_some h1.2.1 (by omega)
          simp only [Value.slice.injEq] at he
          obtain ⟨rfl, _, rfl⟩ := he
          obtain ⟨x, hx⟩ : ∃ x, A.slots[k]? = some x := ⟨_, List.getElem?_eq_getElem hlt⟩
          obtain ⟨xu, xv⟩ := x
          obtain ⟨t0, t1⟩ := scells_used _ _ _ _ hx
          have q1 := h1.1.slots.cellAt (k * 2) (by omega)
          have q2 := h1.2.1.cellAt (k * 2) (by omega)
          have q3 := h1.1.slots.cellAt (k * 2 + 1) (by omega)
          have q4 := h1.2.1.cellAt (k * 2 + 1) (by omega)
          rw [t0] at q1 q2
          rw [t1] at q3 q4
          clear t0 t1 hx d0 d1 d3 d4 d5 d6 d8
          go_wp2_with fail
          go_quiet (fail)
          go_wp2_with fail
          go_roundw
          case rel => exact ⟨k + 1, by omega, by go_num, h1.still (Below.drewN (Below.refl _ _) _)⟩
          case measure => simp [intOf]; omega
        · clear d0 d1 d2 d3 d4 d5 d6 d8
          go_wp2_with fail
          go_ret
          exact ⟨rfl, h1.2.2.2.2⟩
end Go.Proofs.Ytabmmampgmcibaa.W
