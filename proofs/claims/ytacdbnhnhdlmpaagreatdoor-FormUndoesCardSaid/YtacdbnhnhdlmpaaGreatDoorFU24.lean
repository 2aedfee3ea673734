/- Texts joined: Iter ValP WkI WkS Mob Mrem Mmak Mnew. -/
import Derived.RangeFuncNested
import Derived.RangeFuncBound
import Derived.RangeFuncCalls
import Derived.RangeFuncLeaves
import Derived.Shelf.Abstract
import Derived.Shelf.RegionOpen
import Derived.WalkKit
import Derived.OwnWalkIn
import Derived.TacticsInMore
import Derived.LoopNIn
import Derived.LoopIn
import Derived.Test.YtacdbnhnhdlmpaaGreatDoorFU23
import Derived.Test.YtacdbnhnhdlmpaaGreatDoorFU4
import Derived.Test.YtacdbnhnhdlmpaaGreatDoorFU22
import Derived.Deep.RegionLaw
import Derived.Deep.RegionHeld3
import Derived.LoopTactic
import Derived.BigQuiet
set_option maxRecDepth 100000
set_option maxHeartbeats 40000000
set_option linter.unusedVariables false
set_option linter.unusedSimpArgs false
section
namespace Go.Proofs.YtacdbnhnhdlmpaaGreatDoor.W
open Go.RowKit
attribute [local go_sem] Oper.semAt_some
theorem grown_of_below {W w : World} (h : Below W.heap.size W w) : W.grownBy w none := ⟨h.os, h.tape, h.output, h.size, fun k hk _ => h.block k hk⟩
theorem keeps_below {W W' : World} (h : Below W.heap.size W W') : KeepsOthers W W' := ⟨h.size, fun k o hk _ => (h.block k (Array.getElem?_eq_some_iff.1 hk).1).trans hk⟩
theorem rangeFunc_put {α : Type} {P : Program} {n : Nat} {g : Operand} {ps : Array Tmp} {assign body : Code} {Q : Exit → Act → World → Prop} {a : Act} {w : World} (upd : α → Act → Act)
    (h1 : 1 ≤ n) {gf : Nat} {lb : Array Value} (hg : a.eval g = .func (.func gf) #[] lb) (eg : ∀ args w, (callFunc gf args).run P w = .ok (.enter gf args) w)
    {encs : α → Array Value} {Kp : World → World → Prop} {S Sp : List α → Prop} {N : Nat} (hseq : SeqStopsK Fence.wide (n - 1) P gf lb encs Kp S Sp N w)
    (hKt : ∀ {A B C : World}, Kp A B → Kp B C → Kp A C) (hKb : ∀ (W : World) (l : Nat) (o o' : Obj), w.heap.size ≤ l → W.heap[l]? = some o → o.isCells = false → o.isWalk = false → Kp W (W.putObj l o')) (hps : ∀ x, (encs x).size = ps.size)
    (I : List α → World → Prop) (Ix : Code → List α → World → Prop) (hI : OwnFrom w.heap.size I) (hIx : ∀ c, OwnFrom w.heap.size (Ix c)) (h0 : I [] w)
    (hassign : ∀ (l : Nat) (x : α) (W : World) (K : Act → World → Prop), K (upd x a) W →
      assign.wpIn (Fence.wide.inRound l) (n - 1 - 1) P (Exit.then K (fun _ _ _ => False)) { tmps := (ps.zip (encs x)).foldl (fun t (p, v) => t.setIfInBounds p v) a.tmps, defers := [] } W)
    (hbody : ∀ (l : Nat) (pre : List α) (x : α) (W : World), I pre W → pre.length < N → body.wpIn (Fence.wide.inRound l) (n - 1 - 1) P (ownPostK Kp I Ix (pre ++ [x]) W) (upd x a) W)
    (hdone : ∀ (D : Nat) (xs : List α) (W : World), w.heap.size ≤ D → S xs → I xs W → W.heap[D]? = some (.deferred (some [])) → Q .normal { a with defers := { target := .collected D, args := #[] } :: a.defers } W)
    (hstop : ∀ (D : Nat) (c : Code) (pre : List α) (W : World), w.heap.size ≤ D → Sp pre → Ix c pre W → W.heap[D]? = some (.deferred (some [])) → c.wpIn Fence.wide n P Q { a with defers := { target := .collected D, args := #[] } :: a.defers } W) :
    (Code.rangeFunc g ps assign body).wpIn Fence.wide n P Q a w :=
  wpIn_rangeFunc_ownF rfl h1 hg trivial eg hseq hKt hKb (Below.refl _ _) hps I Ix hI hIx h0 (fun x => upd x a) hassign hbody hdone hstop
theorem blk_own {B gn : Nat} {cs : List Value} {t : TypeId} {X Y : World} {row : Option Nat} (h : Blk X gn cs t) (hg : X.grownBy Y row) (hr : ∀ r, row = some r → B ≤ r ∧ ∃ o : Obj, X.heap[r]? = some o ∧ o.isCells = false) : Blk Y gn cs t :=
  h.kept (hg.block gn h.lt (fun e => by
    obtain ⟨_, o, ho, hc⟩ := hr gn e.symm
    have : X.heap[gn]? = _ := h
    rw [this] at ho
    cases ho
    cases hc))
theorem one_mark {n : Nat} {P : Program} {fn : Func} {tmps : Array Value} {R : Ending → World → Prop} {D1 : Nat} {W : World} (h1 : W.heap[D1]? = some (.deferred (some [])))
    (hL : LeavesIn Fence.wide n P fn tmps R [] .returning (W.putObj D1 (.deferred none))) :
    bodyPostM Fence.wide n P fn R .ret { tmps := tmps, defers := [{ target := .collected D1, args := #[] }] } W :=
  ⟨by simp, .inl ⟨D1, _, rfl, run_takeDeferred h1, hL⟩⟩
theorem below_put {B D : Nat} {w W : World} (o : Obj) (h : Below B w W) (hB : B ≤ D) (hD : D < W.heap.size) : Below B w (W.putObj D o) :=
  h.grown (grownBy_putObj' W D o) (by omega) (fun k e => by cases e; exact hB)
theorem hlt {W : World} {k : Nat} {o : Obj} (h : W.heap[k]? = some o) : k < W.heap.size := (Array.getElem?_eq_some_iff.1 h).1
theorem room_none (k : Nat) : Fence.wide.room k := fun d h => by cases h
theorem yield_any {m : Nat} (m' : Nat) {P : Program} {l : Nat} {args : Array Value} {W : World} {R : Ending → World → Prop} (h : YieldAt Fence.wide m P l args W R) : YieldAt Fence.wide m' P l args W R := by
  obtain ⟨fn, tmps, assign, body, hy, h1, h2⟩ := h
  exact ⟨fn, tmps, assign, body, hy, h1, fun c cs _ => h2 c cs (room_none _)⟩
theorem walk_any (R : Nat) (h : Int) (w : World) :
    Calls Tryz.prog 95 #[.pointer (some ⟨R, 0, none⟩), .int .i64 h] w fun e w' => e = .returned (.func (.func 136) #[] #[.pointer (some ⟨w.heap.size, 0, none⟩), .pointer (some ⟨w.heap.size + 1, 0, none⟩)]) ∧
      w' = (w.alloc (.cells #[.pointer (some ⟨R, 0, none⟩)] 25)).alloc (.cells #[.int .i64 h] 3) := by
  go_enter Tryz.func95, Tryz.ntmps95
  go_wp2
  go_ret
  exact ⟨rfl, rfl⟩
end Go.Proofs.YtacdbnhnhdlmpaaGreatDoor.W
end
section
namespace Go.Proofs.YtacdbnhnhdlmpaaGreatDoor.W
open Go.RowKit
theorem attrC_one' (a b : List UInt8) : ∀ u ∈ [Value.string ⟨a.toArray⟩, .string ⟨b.toArray⟩], u.oneCell' = true := by
  intro u hu
  simp only [List.mem_cons, List.not_mem_nil, or_false] at hu
  rcases hu with rfl | rfl <;> rfl
def namesB (al : List Atr) : Bool := al.all (fun a => headB a.1) && decide ((al.map (·.1)).Nodup)
theorem namesB_no1 {al : List Atr} {i : Nat} {y : Atr} (hy : al[i]? = some y) (h : headB y.1 = false) : namesB al = false := by
  unfold namesB
  have : al.all (fun a => headB a.1) = false := by
    rw [List.all_eq_false]
    exact ⟨y, List.mem_of_getElem? hy, by simp [h]⟩
  rw [this]; rfl
theorem namesB_no2 {al : List Atr} {i k : Nat} {y z : Atr} (hy : al[i]? = some y) (hz : al[k]? = some z) (hki : k < i) (h : z.1 = y.1) : namesB al = false := by
  unfold namesB
  have : ¬ (al.map (·.1)).Nodup := fun hn => by
    have h1 : (al.map (·.1))[i]? = some y.1 := by rw [List.getElem?_map, hy]; rfl
    have h2 : (al.map (·.1))[k]? = some y.1 := by rw [List.getElem?_map, hz, ← h]; rfl
    have := (List.getElem?_inj (by have := (List.getElem?_eq_some_iff.1 h2).1; omega) hn).1 (h2.trans h1.symm)
    omega
  rw [decide_eq_false this]; simp
def NmsOk (al : List Atr) (i : Nat) : Prop := ∀ j y, j < i → al[j]? = some y → headB y.1 = true ∧ ∀ k z, k < j → al[k]? = some z → z.1 ≠ y.1
theorem namesB_yes {al : List Atr} (h : NmsOk al al.length) : namesB al = true := by
  unfold namesB
  rw [Bool.and_eq_true]
  constructor
  · rw [List.all_eq_true]
    intro y hy
    obtain ⟨j, hj⟩ := List.mem_iff_getElem?.1 hy
    exact (h j y (List.getElem?_eq_some_iff.1 hj).1 hj).1
  · rw [decide_eq_true_eq, List.nodup_iff_pairwise_ne, List.pairwise_iff_getElem]
    intro k j hk hj hkj
    simp only [List.length_map] at hk hj
    rw [List.getElem_map, List.getElem_map]
    exact (h j al[j] hj (List.getElem?_eq_getElem hj)).2 k al[k] hkj (List.getElem?_eq_getElem hk)
theorem attrC_map (l : List Atr) (i : Nat) (y : Atr) (h : l[i]? = some y) (f : Atr → Atr) : attrC ((l.take (i + 1)).map f) = attrC ((l.take i).map f) ++ atC (f y) := by
  rw [List.take_add_one, h, List.map_append]
  exact attrC_snoc _ _

end Go.Proofs.YtacdbnhnhdlmpaaGreatDoor.W
end
