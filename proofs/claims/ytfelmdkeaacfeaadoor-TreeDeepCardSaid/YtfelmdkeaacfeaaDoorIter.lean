/- The iterator of a tree's arena: what All hands to a loop, and in which order. -/
import Derived.RangeFuncNested
import Derived.RangeFuncBound
import Derived.RangeFuncCalls
import Derived.RangeFuncLeaves
import Derived.Shelf.Abstract
import Derived.Shelf.RegionOpen
import Derived.WalkKit
import Derived.OwnWalkIn
import Derived.TacticsInMore
import Derived.LoopNIn
import Derived.LoopIn
import Derived.Test.YtfelmdkeaacfeaaDoorFormed
import Derived.Test.YtfelmdkeaacfeaaDoorRegI
namespace Go.Proofs.YtfelmdkeaacfeaaDoor.W
open Go.RowKit
set_option linter.unusedVariables false
set_option linter.unusedSimpArgs false
attribute [local go_sem] Oper.semAt_some

/-- a slot that is used -/
abbrev Slt (S : Tr) : Type := {i : Nat // ∃ n, S.slots[i]? = Option.some (Option.some n)}
def nod0 : Nd := ⟨0, [], .slice none 0 0, [], [], 0, 0, 0, 0, 0⟩
def nodeOf (S : Tr) (i : Nat) : Nd := (S.at i).getD nod0
def ndV (n : Nd) : Value := .agg #[.int .i64 n.kind, .string ⟨n.name.toArray⟩, n.av, .string ⟨n.data.toArray⟩, .int .i64 n.parent, .int .i64 n.first, .int .i64 n.last, .int .i64 n.prev, .int .i64 n.next]
def encH (S : Tr) (x : Slt S) : Array Value := #[.int .i64 (S.hd x.1), ndV (nodeOf S x.1)]
def slotAt (S : Tr) (i : Nat) : Option (Slt S) := match h : S.slots[i]? with | some (some n) => some ⟨i, n, h⟩ | _ => none
/-- what has come when k slots are over -/
def came (S : Tr) (k : Nat) : List (Slt S) := (List.range k).filterMap (slotAt S)
theorem slotAt_yes {S : Tr} {i : Nat} {n : Nd} (h : S.slots[i]? = some (some n)) : slotAt S i = some ⟨i, n, h⟩ := by
  unfold slotAt
  split
  · rfl
  · rename_i h2
    exact absurd h (h2 n)
theorem slotAt_no {S : Tr} {i : Nat} (h : S.slots[i]? = some none) : slotAt S i = none := by
  unfold slotAt
  split
  · rename_i n h2
    rw [h] at h2
    simp at h2
  · rfl
theorem came_yes {S : Tr} {k : Nat} {n : Nd} (h : S.slots[k]? = some (some n)) : came S (k + 1) = came S k ++ [⟨k, n, h⟩] := by
  unfold came
  rw [List.range_succ, List.filterMap_append, List.filterMap_cons, slotAt_yes h]
  rfl
theorem came_no {S : Tr} {k : Nat} (h : S.slots[k]? = some none) : came S (k + 1) = came S k := by
  unfold came
  rw [List.range_succ, List.filterMap_append, List.filterMap_cons, slotAt_no h]
  simp
theorem came_len (S : Tr) (k : Nat) : (came S k).length ≤ k := by
  have := List.length_filterMap_le (slotAt S) (List.range k)
  simpa [came] using this
/-- worlds that only grew -/
def BlS (W w : World) : Prop := Below W.heap.size W w
theorem grown_of_below {W w : World} (h : Below W.heap.size W w) : W.grownBy w none := ⟨h.os, h.tape, h.output, h.size, fun k hk _ => h.block k hk⟩

/-- what lay in w0 lies in W -/
def Agree (w0 W : World) : Prop := w0.heap.size ≤ W.heap.size ∧ ∀ k, k < w0.heap.size → W.heap[k]? = w0.heap[k]?
theorem Agree.refl (w : World) : Agree w w := ⟨Nat.le_refl _, fun _ _ => rfl⟩
theorem Agree.below {w0 W W' : World} (h : Agree w0 W) (hb : Below W.heap.size W W') : Agree w0 W' := ⟨Nat.le_trans h.1 hb.size, fun k hk => (hb.block k (Nat.lt_of_lt_of_le hk h.1)).trans (h.2 k hk)⟩
theorem TAt.agree {B R : Nat} {S : Tr} {sv fv : Value} {w W : World} (h : TAt B R S sv fv w) (k : Agree w W) : TAt B R S sv fv W := by
  have keep : ∀ {e sz n : Nat} {v : Value} {xs : List Value}, w.ownsRow B e sz v n xs → W.ownsRow B e sz v n xs := fun h => own_kB h (fun g hg => k.2 g (h.lt g hg).2)
  refine ⟨h.blk.kept (k.2 R h.blk.lt), keep h.slots, keep h.free, fun i n hi => ?_, h.base, h.few⟩
  obtain ⟨a, cp, e, hx⟩ := h.attrs i n hi
  exact ⟨a, cp, e, hx.imp id fun ⟨g', cur', e1, e2, e3, e4⟩ => ⟨g', cur', e1, e2, (k.2 g' (lt_of_block e3)).trans e3, e4⟩⟩

def AlR (S : Tr) (R Bs : Nat) (w0 : World) (J : List (Slt S) → World → Prop) (iv : Value) (wr : World) : Prop :=
  ∃ k : Nat, k ≤ S.slots.length ∧ iv = .int .i64 (k : Int) ∧ J (came S k) wr ∧ Blk wr Bs [.pointer (some ⟨R, 0, none⟩)] 66 ∧ Agree w0 wr

set_option maxRecDepth 100000 in
set_option maxHeartbeats 8000000 in
theorem all1_in {S : Tr} {B R Bs l n g cap : Nat} {fv : Value} {w0 W : World} {J Jx : List (Slt S) → World → Prop} {Kp : World → World → Prop} (h0' : TAt B R S (.slice (some ⟨g, 0, none⟩) S.slots.length cap) fv w0) (hJ : AbidesFrom W.heap.size J) (hn : 1 ≤ n)
    (hKA : ∀ W W', Kp W W' → Agree w0 W → Agree w0 W') (hKB : ∀ W W', Kp W W' → Blk W Bs [.pointer (some ⟨R, 0, none⟩)] 66 → Blk W' Bs [.pointer (some ⟨R, 0, none⟩)] 66)
    (hY : ∀ pre x W, J pre W → pre.length < S.slots.length → YieldAt Fence.wide (n - 1) Tryd.prog l (encH S x) W fun e W' =>
      (e = .returned (.bool true) ∧ J (pre ++ [x]) W' ∧ Kp W W') ∨ (e = .returned (.bool false) ∧ Jx (pre ++ [x]) W'))
    (hBs : Blk W Bs [.pointer (some ⟨R, 0, none⟩)] 66) (hA : Agree w0 W) (h0 : J [] W) :
    CallsIn Fence.wide n Tryd.prog 38 #[.func (.yield l) #[] #[], .pointer (some ⟨Bs, 0, none⟩)] W fun e W' => (∃ v, e = .returned v) ∧
      ((∃ ys, ys = came S S.slots.length ∧ J ys W') ∨ (∃ pre, (∃ k, k ≤ S.slots.length ∧ pre = came S k) ∧ Jx pre W')) := by
  have HT := Lib.hid (fun w (k : Agree w0 w) => h0'.agree k)
  have hfew := h0'.few
  have c0 := hBs.cell 0
  have d0 := (HT.out W hA).blk.cell 2
  simp only [List.getElem?_cons_zero, List.getElem?_cons_succ] at c0 d0
  have HJ := Lib.hid hJ
  have HY := Lib.hid hY
  have HB := Lib.hid hBs
  have HA := Lib.hid hA
  have HKA := Lib.hid hKA
  have HKB := Lib.hid hKB
  have H0 := Lib.hid h0
  clear hJ hY hBs hA hKA hKB h0 h0'
  refine callsIn_of_wp Tryd.func38 rfl trivial ?_ rfl
  simp only [Tryd.ntmps38, List.size_toArray, List.length_cons, List.length_nil, Nat.reduceAdd, Nat.reduceSub, Array.replicate_succ, Array.replicate_zero, List.push_toArray, List.append_toArray, List.nil_append, List.cons_append]
  gi_wp2
  gi_loopw [9] (fun iv wr => AlR S R Bs w0 J iv wr) (fun iv _ => S.slots.length - (intOf iv).toNat)
  case atStart => exact ⟨0, Nat.zero_le _, rfl, H0.out, HB.out, HA.out⟩
  case round =>
    clear c0 d0
    obtain ⟨k, hk, rfl, hJw, hBw, hAw⟩ := hrel
    by_cases hkl : k < S.slots.length
    · obtain ⟨u, hu⟩ : ∃ u, S.slots[k]? = some u := ⟨_, List.getElem?_eq_getElem hkl⟩
      have hTw := HT.out wr hAw
      have e0 := slot_cell hTw hu 0 (by omega)
      have e1 := slot_cell hTw hu 1 (by omega)
      have e2 := slot_cell hTw hu 2 (by omega)
      have e3 := slot_cell hTw hu 3 (by omega)
      have e4 := slot_cell hTw hu 4 (by omega)
      have e5 := slot_cell hTw hu 5 (by omega)
      have e6 := slot_cell hTw hu 6 (by omega)
      have e7 := slot_cell hTw hu 7 (by omega)
      have e8 := slot_cell hTw hu 8 (by omega)
      have e9 := slot_cell hTw hu 9 (by omega)
      rw [Nat.add_zero] at e0
      have elt := (hTw.slots.lt g rfl).2
      have f0 := hBw.cell 0
      have g0 := hTw.blk.cell 0
      have g1 := hTw.blk.cell 1
      have g2 := hTw.blk.cell 2
      simp only [List.getElem?_cons_zero, List.getElem?_cons_succ] at f0 g0 g1 g2
      have flt := hBw.lt
      have glt := hTw.blk.lt
      have y0 := fun x : InS (BlS wr) => (RowKit.Below.cell x.h (p := ⟨Bs, 0, none⟩) flt).trans f0
      have y1 := fun x : InS (BlS wr) => (RowKit.Below.cell x.h (p := ⟨R, 0, none⟩) glt).trans g0
      have y2 := fun x : InS (BlS wr) => (RowKit.Below.cell x.h (p := ⟨R, 1, none⟩) glt).trans g1
      have y3 := fun x : InS (BlS wr) => (RowKit.Below.cell x.h (p := ⟨R, 2, none⟩) glt).trans g2
      have hne : Nonempty (InS (BlS wr)) := ⟨⟨wr, Below.refl _ _⟩⟩
      have HBw := Lib.hid hBw
      have HAw := Lib.hid hAw
      have HJw := Lib.hid hJw
      have HU := Lib.hid hu
      cases u with
      | none =>
        simp only [slotC, List.getElem?_cons_zero] at e0
        have y4 := fun x : InS (BlS wr) => (RowKit.Below.cell x.h (p := ⟨g, k * 10, none⟩) elt).trans e0
        clear hBw hAw hJw hu f0 g0 g1 g2 e0 e1 e2 e3 e4 e5 e6 e7 e8 e9 elt flt glt hTw
        gi_wp2
        refine reg_mI ⟨BlS wr, fun _ _ w => BlS wr w, fun _ => .int .i64 (hdl S.b S.s (k : Nat)), fun _ _ => undef, fun _ => [], fun _ => 0⟩ 24 (by kernel_rfl) (by kernel_rfl) (fun _ _ _ h => h) (fun _ _ w cs ty h => RowKit.Below.alloc h h.size _) (fun _ _ _ _ _ h => h) ((Below.refl _ _).drew) ?_
        simp only [List.take_succ_cons, List.take_zero, List.drop_succ_cons, List.drop_zero]
        repeat (first
          | (refine m_held (by rfl) (by rfl) (fun K hK => ?_); go_big_quiet_step (fail); refine wpQuiet_nil ?_; refine hK.out _ ?_; clear hK K)
          | (refine m_skip (by rfl) ?_; simp only [Act.put, List.setIfInBounds_toArray, List.set_cons_zero, List.set_cons_succ]))
        refine m_nil ?_
        intro w2 hw2
        clear y0 y1 y2 y3 y4 hne
        gi_wp2
        refine ⟨fun _ _ => trivial, ?_⟩
        gi_wp2
        go_roundw
        case rel =>
          have hb : Below wr.heap.size wr w2 := hw2
          exact ⟨k + 1, by omega, by go_num, by rw [came_no HU.out]; exact HJ.out _ _ _ none HJw.out (grown_of_below hb) (fun r e => by cases e), HBw.out.below hb, HAw.out.below hb⟩
        case measure => simp [intOf]; omega
      | some nd =>
        simp only [slotC, ndC, strV, List.getElem?_cons_zero, List.getElem?_cons_succ] at e0 e1 e2 e3 e4 e5 e6 e7 e8 e9
        have y4 := fun x : InS (BlS wr) => (RowKit.Below.cell x.h (p := ⟨g, k * 10, none⟩) elt).trans e0
        have z1 := fun x : InS (BlS wr) => (RowKit.Below.cell x.h (p := ⟨g, k * 10 + 1, none⟩) elt).trans e1
        have z2 := fun x : InS (BlS wr) => (RowKit.Below.cell x.h (p := ⟨g, k * 10 + 2, none⟩) elt).trans e2
        have z3 := fun x : InS (BlS wr) => (RowKit.Below.cell x.h (p := ⟨g, k * 10 + 3, none⟩) elt).trans e3
        have z4 := fun x : InS (BlS wr) => (RowKit.Below.cell x.h (p := ⟨g, k * 10 + 4, none⟩) elt).trans e4
        have z5 := fun x : InS (BlS wr) => (RowKit.Below.cell x.h (p := ⟨g, k * 10 + 5, none⟩) elt).trans e5
        have z6 := fun x : InS (BlS wr) => (RowKit.Below.cell x.h (p := ⟨g, k * 10 + 6, none⟩) elt).trans e6
        have z7 := fun x : InS (BlS wr) => (RowKit.Below.cell x.h (p := ⟨g, k * 10 + 7, none⟩) elt).trans e7
        have z8 := fun x : InS (BlS wr) => (RowKit.Below.cell x.h (p := ⟨g, k * 10 + 8, none⟩) elt).trans e8
        have z9 := fun x : InS (BlS wr) => (RowKit.Below.cell x.h (p := ⟨g, k * 10 + 9, none⟩) elt).trans e9
        obtain ⟨nav, ncp, hav, _⟩ := hTw.attrs k nd hu
        rw [hav] at z3
        have HAV := Lib.hid hav
        clear hBw hAw hJw hu f0 g0 g1 g2 e0 e1 e2 e3 e4 e5 e6 e7 e8 e9 elt flt glt hTw hav
        gi_wp2
        refine reg_mI ⟨BlS wr, fun _ _ w => BlS wr w, fun _ => .int .i64 (hdl S.b S.s (k : Nat)), fun _ _ => undef, fun _ => [], fun _ => 0⟩ 24 (by kernel_rfl) (by kernel_rfl) (fun _ _ _ h => h) (fun _ _ w cs ty h => RowKit.Below.alloc h h.size _) (fun _ _ _ _ _ h => h) ((Below.refl _ _).drew) ?_
        simp only [List.take_succ_cons, List.take_zero, List.drop_succ_cons, List.drop_zero]
        repeat (first
          | (refine m_held (by rfl) (by rfl) (fun K hK => ?_); go_big_quiet_step (fail); refine wpQuiet_nil ?_; refine hK.out _ ?_; clear hK K)
          | (refine m_skip (by rfl) ?_; simp only [Act.put, List.setIfInBounds_toArray, List.set_cons_zero, List.set_cons_succ]))
        refine m_call (.int .i64 (hdl S.b S.s (k : Nat))) rfl (by rfl) (by rfl) (fun w => by go_simp; exact ⟨rfl, rfl⟩) ?_ ?_
        · intro X w2 h2
          refine (handle_any S.b S.s (k : Nat) w2).mono ?_
          rintro e w3 ⟨rfl, hb⟩
          exact ⟨rfl, RowKit.Below.trans h2 (hb.mono h2.size)⟩
        simp only [Act.put, List.setIfInBounds_toArray, List.set_cons_zero, List.set_cons_succ]
        repeat (first
          | (refine m_held (by rfl) (by rfl) (fun K hK => ?_); go_big_quiet_step (fail); refine wpQuiet_nil ?_; refine hK.out _ ?_; clear hK K)
          | (refine m_skip (by rfl) ?_; simp only [Act.put, List.setIfInBounds_toArray, List.set_cons_zero, List.set_cons_succ]))
        refine m_nil ?_
        intro w2 hw2
        clear y0 y1 y2 y3 y4 z1 z2 z3 z4 z5 z6 z7 z8 z9 hne
        have hb : Below wr.heap.size wr w2 := hw2
        have hJ2 : J (came S k) w2 := HJ.out _ _ _ none HJw.out (grown_of_below hb) (fun r e => by cases e)
        have hY2 := HY.out (came S k) ⟨k, nd, HU.out⟩ w2 hJ2 (by have := came_len S k; omega)
        obtain ⟨fn, tmps, assign, body, hy, hR⟩ := hY2
        have hv : nodeOf S k = nd := by unfold nodeOf; rw [at_of HU.out]; rfl
        simp only [encH, hv, ndV, HAV.out, Tr.hd] at hy
        have HB2 := Lib.hid (HBw.out.below hb)
        have HA2 := Lib.hid (HAw.out.below hb)
        have HCY := Lib.hid (came_yes HU.out)
        clear hb hJ2 hv
        gi_wp2
        refine hR.mono ?_
        rintro e W3 (⟨rfl, hJ3, hk3⟩ | ⟨rfl, hJx3⟩)
        · have HB3 := Lib.hid (HKB.out _ _ hk3 HB2.out)
          have HA3 := Lib.hid (HKA.out _ _ hk3 HA2.out)
          have HJ3 := Lib.hid hJ3
          clear hy hR hJ3 hk3
          gi_wp2
          go_roundw
          case rel => exact ⟨k + 1, by omega, by go_num, by rw [HCY.out]; exact HJ3.out, HB3.out, HA3.out⟩
          case measure => simp [intOf]; omega
        · have HJ3 := Lib.hid hJx3
          clear hy hR hJx3
          gi_wp2
          refine bodyPost_ret (results_none rfl _ _ _) rfl ?_
          exact ⟨⟨_, rfl⟩, .inr ⟨_, ⟨k + 1, by omega, HCY.out.symm⟩, HJ3.out⟩⟩
    · obtain rfl : k = S.slots.length := by omega
      have HJw := Lib.hid hJw
      clear hJw hBw hAw
      gi_wp2
      go_end0
      exact ⟨⟨_, rfl⟩, .inl ⟨_, rfl, HJw.out⟩⟩
end Go.Proofs.YtfelmdkeaacfeaaDoor.W
