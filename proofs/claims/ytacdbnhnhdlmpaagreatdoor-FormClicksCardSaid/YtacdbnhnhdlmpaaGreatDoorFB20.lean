/- Texts joined: Mcpy Col TwM TDr Non DropB Mdrp TwS. -/
import Derived.Test.YtacdbnhnhdlmpaaGreatDoorFB19
import Derived.Deep.CutBlock
import Derived.Deep.DeepCutAuto
import Derived.Test.YtacdbnhnhdlmpaaGreatDoorFB17
import Derived.Test.YtacdbnhnhdlmpaaGreatDoorFB18
import Derived.Test.YtacdbnhnhdlmpaaGreatDoorFB13
import Derived.Test.YtacdbnhnhdlmpaaGreatDoorFB16
import Derived.Test.YtacdbnhnhdlmpaaGreatDoorFB15
set_option maxRecDepth 100000
set_option maxHeartbeats 40000000
set_option linter.unusedVariables false
set_option linter.unusedSimpArgs false
section
namespace Go.Proofs.YtacdbnhnhdlmpaaGreatDoor.W
open Go.RowKit
theorem run_append_B {P : Program} {t ty e : TypeId} {size bytes : Nat} (hT : ET P t e size bytes) {B : Nat} {w : World} {dv : Value} {n : Nat} {xs : List Value} (hown : w.ownsRow B e size dv n xs) (hB : B ≤ w.heap.size)
    {g m cap : Nat} {ys : List Value} (hs : Own w e size (.slice (some ⟨g, 0, none⟩) m cap) m ys) (h1 : ∀ u ∈ ys, u.oneCell' = true) (hlen : n + m ≤ 1000000000) (hby : bytes ≤ 1000) :
    ∃ v' w', (Builtin.append_ #[t, t] ty #[dv, .slice (some ⟨g, 0, none⟩) m cap]).run P w = .ok v' w' ∧ w'.ownsRow B e size v' (n + m) (xs ++ ys) ∧ w.grownBy w' dv.ownBlock ∧ (v'.ownBlock = dv.ownBlock ∨ v'.ownBlock = some w.heap.size) := by
  obtain ⟨i, z, hi, hz0, hz1, hz2, hz3⟩ := hT.info
  have hmul : (n + m) * bytes ≤ 1000000000 * 1000 := Nat.mul_le_mul hlen hby
  obtain ⟨v', w', hr, h2, h3, _, h5⟩ := run_append_own_at (P := P) w B t ty e i z size bytes hT.under hi hz0 hz1 hz2 hz3 hT.pos dv n xs hown ⟨g, 0, none⟩ m cap ys hs.1 (own_news hs) h1 (by unfold maxLen; omega) (by omega) hB
  exact ⟨v', w', hr, h2, h3, h5⟩
end Go.Proofs.YtacdbnhnhdlmpaaGreatDoor.W
end
section
namespace Go.Proofs.YtacdbnhnhdlmpaaGreatDoor.W
open Go.RowKit
attribute [local go_sem] Oper.semAt_some
theorem wpListIn_append_B {F : Fence} {n0 : Nat} {P : Program} {t e : TypeId} {size bytes : Nat} (hT : ET P t e size bytes) {B : Nat} {w : World} {dv : Value} {n : Nat} {xs : List Value} (hown : w.ownsRow B e size dv n xs) (hB : B ≤ w.heap.size)
    {g m cap : Nat} {ys : List Value} (hs : Own w e size (.slice (some ⟨g, 0, none⟩) m cap) m ys) (h1 : ∀ u ∈ ys, u.oneCell' = true) (hlen : n + m ≤ 1000000000) (hby : bytes ≤ 1000)
    {ops : Array Oper} {rest : List Oper} {o : Oper} {a : Act} {Q : Exit → Act → World → Prop} (hg : o.guard = none) (s x : Operand) (hop : o.op = Op.call { callee := Callee.builtin Builtin.append, args := #[s, x], argTypes := #[t, t] }) (hd : a.eval s = dv) (hx : a.eval x = .slice (some ⟨g, 0, none⟩) m cap)
    (hK : ∀ v' w', w'.ownsRow B e size v' (n + m) (xs ++ ys) → w.grownBy w' dv.ownBlock → (v'.ownBlock = dv.ownBlock ∨ v'.ownBlock = some w.heap.size) → wpListIn F n0 P ops Q rest (a.put o.dst v') w') :
    wpListIn F n0 P ops Q (o :: rest) a w := by
  refine wpListIn_plain hg fun K hK' => ?_
  obtain ⟨v', w', hrun, r1, r2, r3⟩ := run_append_B (ty := o.type) hT hown hB hs h1 hlen hby
  unfold Oper.wpIn
  refine ⟨?_, ?_⟩
  · simp [Oper.about, hop, resolve, Target.leads, Sem.run_pure]
  · rw [Oper.semAt_plain F _ _ (by rw [hop]; intro c hc'; cases hc')]
    simp [execOp, hop, resolve, invoke, builtin, hd, hx, hrun, Result.andThen]
    exact hK' _ _ (hK v' w' r1 r2 r3)
theorem KpS.put2 {b : Nat} {W : World} (l : Nat) (o o' : Obj) (h : W.heap[l]? = some o) (ho : o.isCells = false) (hb : b ≠ l) : KpS b W (W.putObj l o') := by
  have hne : ∀ (k : Nat) (cs : Array Value) (t : TypeId) (fr : Nat × Nat), W.heap[k]? = some (Obj.cells cs t fr) → k ≠ l := fun k cs t fr hk e => by
    subst e; rw [hk] at h; cases h; cases ho
  refine ⟨by simp, fun k cs t fr hk _ _ => (World.putObj_heap_other (hne k cs t fr hk)).trans hk, .inl ?_⟩
  unfold slB
  have e : (W.putObj l o').heap[b]? = W.heap[b]? := World.putObj_heap_other hb
  unfold World.cell?
  simp only [e]
end Go.Proofs.YtacdbnhnhdlmpaaGreatDoor.W
end
section
namespace Go.Proofs.YtacdbnhnhdlmpaaGreatDoor.W
open Go.RowKit
theorem fix_valid (l : List UInt8) : Lib.validD (fix l) = true := by
  rw [fix_rfix]
  exact (rfix_iff _).2 (rfix_rfix l)
theorem namesB_parts {al : List Atr} (h : namesB al = true) : (∀ a ∈ al, headB a.1 = true) ∧ (al.map (·.1)).Nodup := by
  unfold namesB at h
  rw [Bool.and_eq_true, List.all_eq_true] at h
  exact ⟨h.1, of_decide_eq_true h.2⟩

theorem remove_doc {B R : Nat} {S : Tr} {sv fv : Value} {w : World} {K d} (h : TAt B R S sv fv w) (hL : Lk S K d) (i : Nat) (n : Nd) (hi : S.at i = some n) (hk : n.kind = 1) :
    Calls Tryz.prog 54 #[.pointer (some ⟨R, 0, none⟩), .int .i64 (S.hd i)] w fun e w' => e = .returned (.tuple #[.slice none 0 0, .int .i64 10]) ∧ Below w.heap.size w w' := by
  obtain ⟨g, cap, rfl⟩ := slots_some h (by have := at_lt hi; omega)
  have HA := Lib.hid (at_some h (S.hd i) (hd_ok hL hi).1 (hd_ix hL hi))
  have HS := Lib.hid (fun wx (hb : Below w.heap.size w wx) => (show wx.cell? ⟨g, i * 10 + 1, none⟩ = some (.int .i64 n.kind) from slot_cell (h.below hb) (at_slot hi) 1 (by omega)))
  clear h hi
  go_enter Tryz.func54, Tryz.ntmps54
  go_wp2_with fail
  refine HA.out.mono ?_
  rintro e w2 ⟨rfl, hb⟩
  have c1 := HS.out w2 hb
  have HB := Lib.hid hb
  clear hb HA HS
  unfold na
  rw [hk] at c1
  clear hk
  go_wp2_with fail
  go_ret2
  exact ⟨rfl, HB.out⟩



end Go.Proofs.YtacdbnhnhdlmpaaGreatDoor.W
end
