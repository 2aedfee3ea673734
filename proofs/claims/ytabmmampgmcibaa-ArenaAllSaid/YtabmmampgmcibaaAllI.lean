/- The iterator of an arena of numbers: what All hands to a loop, and in which order. -/
import Derived.RangeFuncNested
import Derived.RangeFuncBound
import Derived.RangeFuncCalls
import Derived.RangeFuncLeaves
import Derived.Shelf.Abstract
import Derived.Shelf.RegionOpen
import Derived.WalkKit
import Derived.OwnWalkIn
import Derived.TacticsInMore
import Derived.LoopNIn
import Derived.LoopIn
import Derived.Test.YtabmmampgmcibaaFilled
import Derived.Test.YtabmmampgmcibaaRegI
namespace Go.Proofs.Ytabmmampgmcibaa.W
open Go.RowKit
set_option linter.unusedVariables false
attribute [local go_sem] Oper.semAt_some

/-- a slot that is used -/
abbrev Slt (A : Ar Int) : Type := {i : Nat // ∃ v, A.slots[i]? = some (true, v)}
def valOf (A : Ar Int) (i : Nat) : Int := ((A.slots[i]?).map (·.2)).getD 0
def encH (A : Ar Int) (x : Slt A) : Array Value := #[.int .i64 (hdl A.b A.s (x.1 : Nat)), .int .i64 (valOf A x.1)]
def slotAt (A : Ar Int) (i : Nat) : Option (Slt A) := match h : A.slots[i]? with | some (true, v) => some ⟨i, v, h⟩ | _ => none
/-- what has come when k slots are over -/
def came (A : Ar Int) (k : Nat) : List (Slt A) := (List.range k).filterMap (slotAt A)
theorem slotAt_yes {A : Ar Int} {i : Nat} {v : Int} (h : A.slots[i]? = some (true, v)) : slotAt A i = some ⟨i, v, h⟩ := by
  unfold slotAt
  split
  · rfl
  · rename_i h2
    exact absurd h (h2 v)
theorem slotAt_no {A : Ar Int} {i : Nat} {v : Int} (h : A.slots[i]? = some (false, v)) : slotAt A i = none := by
  unfold slotAt
  split
  · rename_i v' h2
    rw [h] at h2
    simp at h2
  · rfl
theorem came_yes {A : Ar Int} {k : Nat} {v : Int} (h : A.slots[k]? = some (true, v)) : came A (k + 1) = came A k ++ [⟨k, v, h⟩] := by
  unfold came
  rw [List.range_succ, List.filterMap_append, List.filterMap_cons, slotAt_yes h]
  rfl
theorem came_no {A : Ar Int} {k : Nat} {v : Int} (h : A.slots[k]? = some (false, v)) : came A (k + 1) = came A k := by
  unfold came
  rw [List.range_succ, List.filterMap_append, List.filterMap_cons, slotAt_no h]
  simp
theorem came_len (A : Ar Int) (k : Nat) : (came A k).length ≤ k := by
  have := List.length_filterMap_le (slotAt A) (List.range k)
  simpa [came] using this
/-- worlds that only grew -/
def BlS (W w : World) : Prop := Below W.heap.size W w
theorem grown_of_below {W w : World} (h : Below W.heap.size W w) : W.grownBy w none := ⟨h.os, h.tape, h.output, h.size, fun k hk _ => h.block k hk⟩

def AlR (A : Ar Int) (g Bs : Nat) (sv fv : Value) (J : List (Slt A) → World → Prop) (iv : Value) (wr : World) : Prop :=
  ∃ k : Nat, k ≤ A.slots.length ∧ iv = .int .i64 (k : Int) ∧ J (came A k) wr ∧ Blk wr Bs [.pointer (some ⟨g, 0, none⟩)] 82 ∧ AtI wr g A sv fv

set_option maxRecDepth 100000 in
set_option maxHeartbeats 4000000 in
theorem all1_in {A : Ar Int} {g Bs l n : Nat} {sv fv : Value} {W : World} {J Jx : List (Slt A) → World → Prop} {Kp : World → World → Prop} (hl : A.slots.length ≤ 1000) (hJ : AbidesFrom W.heap.size J) (hn : 1 ≤ n)
    (hKA : ∀ W W', Kp W W' → AtI W g A sv fv → AtI W' g A sv fv) (hKB : ∀ W W', Kp W W' → Blk W Bs [.pointer (some ⟨g, 0, none⟩)] 82 → Blk W' Bs [.pointer (some ⟨g, 0, none⟩)] 82)
    (hY : ∀ pre x W, J pre W → pre.length < A.slots.length → YieldAt Fence.wide (n - 1) Try.prog l (encH A x) W fun e W' =>
      (e = .returned (.bool true) ∧ J (pre ++ [x]) W' ∧ Kp W W') ∨ (e = .returned (.bool false) ∧ Jx (pre ++ [x]) W'))
    (hBs : Blk W Bs [.pointer (some ⟨g, 0, none⟩)] 82) (hA : AtI W g A sv fv) (h0 : J [] W) :
    CallsIn Fence.wide n Try.prog 48 #[.func (.yield l) #[] #[], .pointer (some ⟨Bs, 0, none⟩)] W fun e W' => (∃ v, e = .returned v) ∧
      ((∃ ys, ys = came A A.slots.length ∧ J ys W') ∨ (∃ pre, (∃ k, k ≤ A.slots.length ∧ pre = came A k) ∧ Jx pre W')) := by
  obtain ⟨sa, sc, rfl⟩ := own_shape hA.slots
  have c0 := hBs.cell 0
  have d0 := hA.blk.cell 2
  simp only [List.getElem?_cons_zero, List.getElem?_cons_succ] at c0 d0
  have HJ := Lib.hid hJ
  have HY := Lib.hid hY
  have HB := Lib.hid hBs
  have HA := Lib.hid hA
  have HKA := Lib.hid hKA
  have HKB := Lib.hid hKB
  have H0 := Lib.hid h0
  clear hJ hY hBs hA hKA hKB h0
  refine callsIn_of_wp Try.func48 rfl trivial ?_ rfl
  simp only [Try.ntmps48, List.size_toArray, List.length_cons, List.length_nil, Nat.reduceAdd, Nat.reduceSub, Array.replicate_succ, Array.replicate_zero, List.push_toArray, List.append_toArray, List.nil_append, List.cons_append]
  gi_wp2
  gi_loopw [9] (fun iv wr => AlR A g Bs (.slice sa A.slots.length sc) fv J iv wr) (fun iv _ => A.slots.length - (intOf iv).toNat)
  case atStart => exact ⟨0, Nat.zero_le _, rfl, H0.out, HB.out, HA.out⟩
  case round =>
    clear c0 d0
    obtain ⟨k, hk, rfl, hJw, hBw, hAw⟩ := hrel
    by_cases hkl : k < A.slots.length
    · obtain ⟨⟨u, v⟩, hu⟩ : ∃ u, A.slots[k]? = some u := ⟨_, List.getElem?_eq_getElem hkl⟩
      obtain ⟨sg, sc', he, _⟩ := own_some hAw.slots (by omega)
      simp only [Value.slice.injEq, true_and] at he
      obtain ⟨rfl, rfl⟩ := he
      obtain ⟨q0, q1⟩ := scells_used A.slots k u v hu
      have e0 := hAw.slots.cellAt (k * 2) (by omega)
      have e1 := hAw.slots.cellAt (k * 2 + 1) (by omega)
      rw [q0] at e0
      rw [q1] at e1
      have elt := own_lt hAw.slots (k := sg) rfl
      have f0 := hBw.cell 0
      have g0 := hAw.blk.cell 0
      have g1 := hAw.blk.cell 1
      have g2 := hAw.blk.cell 2
      simp only [List.getElem?_cons_zero, List.getElem?_cons_succ] at f0 g0 g1 g2
      have flt := hBw.lt
      have glt := hAw.blk.lt
      have y0 := fun x : InS (BlS wr) => (RowKit.Below.cell x.h (p := ⟨Bs, 0, none⟩) flt).trans f0
      have y1 := fun x : InS (BlS wr) => (RowKit.Below.cell x.h (p := ⟨g, 0, none⟩) glt).trans g0
      have y2 := fun x : InS (BlS wr) => (RowKit.Below.cell x.h (p := ⟨g, 1, none⟩) glt).trans g1
      have y3 := fun x : InS (BlS wr) => (RowKit.Below.cell x.h (p := ⟨g, 2, none⟩) glt).trans g2
      have y4 := fun x : InS (BlS wr) => (RowKit.Below.cell x.h (p := ⟨sg, k * 2, none⟩) elt).trans e0
      have y5 := fun x : InS (BlS wr) => (RowKit.Below.cell x.h (p := ⟨sg, k * 2 + 1, none⟩) elt).trans e1
      have hne : Nonempty (InS (BlS wr)) := ⟨⟨wr, Below.refl _ _⟩⟩
      have HBw := Lib.hid hBw
      have HAw := Lib.hid hAw
      have HJw := Lib.hid hJw
      have HU := Lib.hid hu
      clear hBw hAw hJw hu q0 q1 f0 g0 g1 g2 e0 e1 elt flt glt
      cases u with
      | false =>
        gi_wp2
        refine reg_mI ⟨BlS wr, fun _ _ w => BlS wr w, fun _ => .int .i64 (hdl A.b A.s (k : Nat)), fun _ _ => undef, fun _ => [], fun _ => 0⟩ 24 (by kernel_rfl) (by kernel_rfl) (fun _ _ _ h => h) (fun _ _ w cs ty h => RowKit.Below.alloc h h.size _) (fun _ _ _ _ _ h => h) ((Below.refl _ _).drew) ?_
        simp only [List.take_succ_cons, List.take_zero, List.drop_succ_cons, List.drop_zero]
        repeat (first
          | (refine m_held (by rfl) (by rfl) (fun K hK => ?_); go_big_quiet_step (fail); refine wpQuiet_nil ?_; refine hK.out _ ?_; clear hK K)
          | (refine m_skip (by rfl) ?_; simp only [Act.put, List.setIfInBounds_toArray, List.set_cons_zero, List.set_cons_succ]))
        refine m_nil ?_
        intro w2 hw2
        clear y0 y1 y2 y3 y4 y5 hne
        gi_wp2
        refine ⟨fun _ _ => trivial, ?_⟩
        gi_wp2
        go_roundw
        case rel =>
          have hb : Below wr.heap.size wr w2 := hw2
          exact ⟨k + 1, by omega, by go_num, by rw [came_no HU.out]; exact HJ.out _ _ _ none HJw.out (grown_of_below hb) (fun r e => by cases e), HBw.out.below hb, HAw.out.below hb⟩
        case measure => simp [intOf]; omega
      | true =>
        gi_wp2
        refine reg_mI ⟨BlS wr, fun _ _ w => BlS wr w, fun _ => .int .i64 (hdl A.b A.s (k : Nat)), fun _ _ => undef, fun _ => [], fun _ => 0⟩ 24 (by kernel_rfl) (by kernel_rfl) (fun _ _ _ h => h) (fun _ _ w cs ty h => RowKit.Below.alloc h h.size _) (fun _ _ _ _ _ h => h) ((Below.refl _ _).drew) ?_
        simp only [List.take_succ_cons, List.take_zero, List.drop_succ_cons, List.drop_zero]
        repeat (first
          | (refine m_held (by rfl) (by rfl) (fun K hK => ?_); go_big_quiet_step (fail); refine wpQuiet_nil ?_; refine hK.out _ ?_; clear hK K)
          | (refine m_skip (by rfl) ?_; simp only [Act.put, List.setIfInBounds_toArray, List.set_cons_zero, List.set_cons_succ]))
        refine m_call (.int .i64 (hdl A.b A.s (k : Nat))) rfl (by rfl) (by rfl) (fun w => by go_simp; exact ⟨rfl, rfl⟩) ?_ ?_
        · intro X w2 h2
          refine (handle_any A.b A.s (k : Nat) w2).mono ?_
          rintro e w3 ⟨rfl, hb⟩
          exact ⟨rfl, RowKit.Below.trans h2 (hb.mono h2.size)⟩
        simp only [Act.put, List.setIfInBounds_toArray, List.set_cons_zero, List.set_cons_succ]
        repeat (first
          | (refine m_held (by rfl) (by rfl) (fun K hK => ?_); go_big_quiet_step (fail); refine wpQuiet_nil ?_; refine hK.out _ ?_; clear hK K)
          | (refine m_skip (by rfl) ?_; simp only [Act.put, List.setIfInBounds_toArray, List.set_cons_zero, List.set_cons_succ]))
        refine m_nil ?_
        intro w2 hw2
        clear y0 y1 y2 y3 y4 y5 hne
        have hb : Below wr.heap.size wr w2 := hw2
        have hJ2 : J (came A k) w2 := HJ.out _ _ _ none HJw.out (grown_of_below hb) (fun r e => by cases e)
        have hY2 := HY.out (came A k) ⟨k, v, HU.out⟩ w2 hJ2 (by have := came_len A k; omega)
        obtain ⟨fn, tmps, assign, body, hy, hR⟩ := hY2
        have hv : valOf A k = v := by unfold valOf; rw [HU.out]; rfl
        simp only [encH, hv] at hy
        have HB2 := Lib.hid (HBw.out.below hb)
        have HA2 := Lib.hid (HAw.out.below hb)
        have HCY := Lib.hid (came_yes HU.out)
        clear hb hJ2 hv
        gi_wp2
        refine hR.mono ?_
        rintro e W3 (⟨rfl, hJ3, hk3⟩ | ⟨rfl, hJx3⟩)
        · have HB3 := Lib.hid (HKB.out _ _ hk3 HB2.out)
          have HA3 := Lib.hid (HKA.out _ _ hk3 HA2.out)
          have HJ3 := Lib.hid hJ3
          clear hy hR hJ3 hk3
          gi_wp2
          go_roundw
          case rel => exact ⟨k + 1, by omega, by go_num, by rw [HCY.out]; exact HJ3.out, HB3.out, HA3.out⟩
          case measure => simp [intOf]; omega
        · have HJ3 := Lib.hid hJx3
          clear hy hR hJx3
          gi_wp2
          refine bodyPost_ret (results_none rfl _ _ _) rfl ?_
          exact ⟨⟨_, rfl⟩, .inr ⟨_, ⟨k + 1, by omega, HCY.out.symm⟩, HJ3.out⟩⟩
    · obtain rfl : k = A.slots.length := by omega
      have HJw := Lib.hid hJw
      clear hJw hBw hAw
      gi_wp2
      go_end0
      exact ⟨⟨_, rfl⟩, .inl ⟨_, rfl, HJw.out⟩⟩
end Go.Proofs.Ytabmmampgmcibaa.W
