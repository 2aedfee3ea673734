/- Texts joined: WkI WkS Col TDr Non TwM DropB Mdrp. -/
import Derived.Test.YtacdbnhnhdlmpaaGreatDoorFE28
import Derived.Test.YtacdbnhnhdlmpaaGreatDoorFE31
import Derived.Test.YtacdbnhnhdlmpaaGreatDoorFE4
import Derived.Test.YtacdbnhnhdlmpaaGreatDoorFE20
import Derived.Test.YtacdbnhnhdlmpaaGreatDoorFE27
import Derived.Test.YtacdbnhnhdlmpaaGreatDoorFE14
import Derived.Test.YtacdbnhnhdlmpaaGreatDoorFE19
import Derived.Test.YtacdbnhnhdlmpaaGreatDoorFE18
set_option maxRecDepth 100000
set_option maxHeartbeats 40000000
set_option linter.unusedVariables false
set_option linter.unusedSimpArgs false
section
namespace Go.Proofs.YtacdbnhnhdlmpaaGreatDoor.W
open Go.RowKit
attribute [local go_sem] Oper.semAt_some
theorem hlt {W : World} {k : Nat} {o : Obj} (h : W.heap[k]? = some o) : k < W.heap.size := (Array.getElem?_eq_some_iff.1 h).1
theorem room_none (k : Nat) : Fence.wide.room k := fun d h => by cases h
theorem yield_any {m : Nat} (m' : Nat) {P : Program} {l : Nat} {args : Array Value} {W : World} {R : Ending → World → Prop} (h : YieldAt Fence.wide m P l args W R) : YieldAt Fence.wide m' P l args W R := by
  obtain ⟨fn, tmps, assign, body, hy, h1, h2⟩ := h
  exact ⟨fn, tmps, assign, body, hy, h1, fun c cs _ => h2 c cs (room_none _)⟩
theorem walk_any (R : Nat) (h : Int) (w : World) :
    Calls Tryz.prog 95 #[.pointer (some ⟨R, 0, none⟩), .int .i64 h] w fun e w' => e = .returned (.func (.func 136) #[] #[.pointer (some ⟨w.heap.size, 0, none⟩), .pointer (some ⟨w.heap.size + 1, 0, none⟩)]) ∧
      w' = (w.alloc (.cells #[.pointer (some ⟨R, 0, none⟩)] 25)).alloc (.cells #[.int .i64 h] 3) := by
  go_enter Tryz.func95, Tryz.ntmps95
  go_wp2
  go_ret
  exact ⟨rfl, rfl⟩

end Go.Proofs.YtacdbnhnhdlmpaaGreatDoor.W
end
section
namespace Go.Proofs.YtacdbnhnhdlmpaaGreatDoor.W
open Go.RowKit
theorem remove_doc {B R : Nat} {S : Tr} {sv fv : Value} {w : World} {K d} (h : TAt B R S sv fv w) (hL : Lk S K d) (i : Nat) (n : Nd) (hi : S.at i = some n) (hk : n.kind = 1) :
    Calls Tryz.prog 54 #[.pointer (some ⟨R, 0, none⟩), .int .i64 (S.hd i)] w fun e w' => e = .returned (.tuple #[.slice none 0 0, .int .i64 10]) ∧ Below w.heap.size w w' := by
  obtain ⟨g, cap, rfl⟩ := slots_some h (by have := at_lt hi; omega)
  have HA := Lib.hid (at_some h (S.hd i) (hd_ok hL hi).1 (hd_ix hL hi))
  have HS := Lib.hid (fun wx (hb : Below w.heap.size w wx) => (show wx.cell? ⟨g, i * 10 + 1, none⟩ = some (.int .i64 n.kind) from slot_cell (h.below hb) (at_slot hi) 1 (by omega)))
  clear h hi
  go_enter Tryz.func54, Tryz.ntmps54
  go_wp2_with fail
  refine HA.out.mono ?_
  rintro e w2 ⟨rfl, hb⟩
  have c1 := HS.out w2 hb
  have HB := Lib.hid hb
  clear hb HA HS
  unfold na
  rw [hk] at c1
  clear hk
  go_wp2_with fail
  go_ret2
  exact ⟨rfl, HB.out⟩
theorem fix_valid (l : List UInt8) : Lib.validD (fix l) = true := by
  rw [fix_rfix]
  exact (rfix_iff _).2 (rfix_rfix l)
theorem namesB_parts {al : List Atr} (h : namesB al = true) : (∀ a ∈ al, headB a.1 = true) ∧ (al.map (·.1)).Nodup := by
  unfold namesB at h
  rw [Bool.and_eq_true, List.all_eq_true] at h
  exact ⟨h.1, of_decide_eq_true h.2⟩


end Go.Proofs.YtacdbnhnhdlmpaaGreatDoor.W
end
