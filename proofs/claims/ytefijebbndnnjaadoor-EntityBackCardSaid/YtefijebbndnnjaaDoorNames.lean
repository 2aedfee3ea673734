/- The contract of Names. -/
import Derived.Test.YtefijebbndnnjaaDoorLawP
import Derived.Deep.MidRow
set_option linter.unusedVariables false
set_option linter.unusedSimpArgs false
namespace Go.Proofs.YtefijebbndnnjaaDoor.W
open Go.RowKit

/-- the cells of the program's table -/
def cellsE : List Value := tabE.flatMap fun x => [Value.string ⟨x.1.toArray⟩, Value.string ⟨x.2.toArray⟩]
theorem cellsE_at : ∀ i : Fin 30, cellsE[2 * i.val]? = (tabE[i.val]?).map (fun x => Value.string ⟨x.1.toArray⟩) ∧ cellsE[2 * i.val + 1]? = (tabE[i.val]?).map (fun x => Value.string ⟨x.2.toArray⟩) := by
  intro i
  match i with
  | ⟨i, hi⟩ =>
    iterate 30 (cases i with | zero => exact ⟨rfl, rfl⟩ | succ i => ?_)
    omega
theorem cellsE_len : cellsE.length = 60 := rfl
theorem range_tab {w : World} (hL : Laid w) : w.rangeAt 0 0 cellsE := by
  intro j v hj
  have hlt : j < 60 := (List.getElem?_eq_some_iff.1 hj).1
  obtain ⟨x, hx⟩ : ∃ x, tabE[j / 2]? = some x := ⟨_, List.getElem?_eq_getElem (by have e : tabE.length = 30 := rfl; omega)⟩
  have h := cellsE_at ⟨j / 2, by omega⟩
  simp only [hx, Option.map_some] at h
  rw [Nat.zero_add]
  rcases Nat.mod_two_eq_zero_or_one j with e | e
  · have ej : j = 2 * (j / 2) := by omega
    rw [ej] at hj ⊢
    rw [h.1] at hj
    cases hj
    exact (hL.tab _ x hx).1
  · have ej : j = 2 * (j / 2) + 1 := by omega
    rw [ej] at hj ⊢
    rw [h.2] at hj
    cases hj
    exact (hL.tab _ x hx).2
theorem index_tab (i : Nat) (x : List UInt8 × List UInt8) (hx : tabE[i]? = some x) (w : World) :
    (Instr.index 56 (.agg cellsE.toArray) (.int .i64 (i : Int))).run Tryd.prog w = .ok (.agg #[.string ⟨x.1.toArray⟩, .string ⟨x.2.toArray⟩]) w := by
  have hi : i < 30 := (List.getElem?_eq_some_iff.1 hx).1
  have h := cellsE_at ⟨i, hi⟩
  simp only [hx, Option.map_some] at h
  have hn : 0 ≤ (i : Int) ∧ (i : Int) < 30 := by omega
  simp [Instr.index, run_underlying Tryd.underlying56, asIntOf, hn, go_sem]
  rw [if_pos hi]
  congr 3
  apply List.ext_getElem?
  intro j
  rw [List.getElem?_take, List.getElem?_drop]
  match j with
  | 0 => rw [if_pos (by omega), Nat.mul_comm]; exact h.1
  | 1 => rw [if_pos (by omega), Nat.mul_comm]; exact h.2
  | j + 2 => rw [if_neg (by omega)]; rfl

def nameCells (k : Nat) : List Value := (tabE.take k).map fun x => Value.string ⟨x.1.toArray⟩
theorem nameCells_succ {k : Nat} {x : List UInt8 × List UInt8} (hx : tabE[k]? = some x) : nameCells (k + 1) = nameCells k ++ [Value.string ⟨x.1.toArray⟩] := by
  unfold nameCells; rw [List.take_add_one, hx]; simp
def NmsR (w : World) (ov kv : Value) (wr : World) : Prop :=
  ∃ (k : Nat) (v : Value), k ≤ 30 ∧ v = ov ∧ kv = .int .i64 (k : Int) ∧ wr.ownsRow w.heap.size 9 1 v k (nameCells k) ∧ Below w.heap.size w wr
theorem new2 (w : World) (A : Obj) (x : Value) (t : TypeId) : ∀ j u, [x][j]? = some u → ((w.alloc A).alloc (.cells #[x] t)).cell? ((⟨w.heap.size + 1, 0, none⟩ : Addr).add j) = some u := by
  have h := cell_one_new (w.alloc A) x t
  rw [show (w.alloc A).heap.size = w.heap.size + 1 by simp] at h
  exact h
theorem infoS : (Tryd.prog.info? 9).map (fun i => (i.zero, i.size, i.bytes)) = some (some (.string ⟨#[]⟩), 1, 16) := by kernel_rfl

set_option maxRecDepth 100000 in
set_option maxHeartbeats 4000000 in
theorem names_any (w : World) (hL : Laid w) :
    Calls Tryd.prog 17 #[] w fun e w' => ∃ v, e = .returned v ∧ w'.ownsRow w.heap.size 9 1 v 30 (nameCells 30) ∧ Below w.heap.size w w' := by
  have HL := Lib.hid hL
  clear hL
  have hrng := range_tab HL.out
  go_enter Tryd.func17, Tryd.ntmps17
  go_wp2_with (refine wpList_load_mid rfl 56 _ rfl 0 0 rfl cellsE _ hrng Tryd.underlying56 rfl (by kernel_rfl) ?_)
  clear hrng
  generalize hcE : Value.agg cellsE.toArray = cE
  go_loopw [1, 5] (fun ov kv wr => NmsR w ov kv wr) (fun _ kv _ => 30 - (intOf kv).toNat)
  case atStart => exact ⟨0, _, by omega, rfl, rfl, World.ownsRow_nil _ _ _ _, Below.refl _ _⟩
  case round =>
    obtain ⟨k, ov, hk, rfl, rfl, hown, hB⟩ := hrel
    by_cases hlt : k < 30
    · obtain ⟨x, hx⟩ : ∃ x, tabE[k]? = some x := ⟨_, List.getElem?_eq_getElem (by have e : tabE.length = 30 := rfl; omega)⟩
      have hix := fun wx => index_tab k x hx wx
      rw [hcE] at hix
      obtain ⟨i0, hi, hz0, hz1, hz2⟩ := info_parts infoS
      have HO := Lib.hid (show ∀ A B, ((wr.alloc A).alloc B).ownsRow w.heap.size 9 1 ov k (nameCells k) from fun A B => (hown.alloc A).alloc B)
      have HX := Lib.hid hx
      have HB := Lib.hid (show ∀ A B, Below w.heap.size w ((wr.alloc A).alloc B) from fun A B => (hB.alloc hB.size A).alloc (by have := hB.size; simp; omega) B)
      have hsz := hB.size
      have hlt2 := fun (A : Obj) (B : Obj) => (show ∀ g, ov.ownBlock = some g → w.heap.size ≤ g from fun g hg => (hown.lt g hg).1)
      clear hx hown
      go_wp2_with (at_builtin; refine wpList_append_own _ rfl _ _ 29 rfl w.heap.size 9 i0 _ 1 16 Tryd.underlying29 hi hz0 hz1 hz2 rfl (by decide) _ k (nameCells k) rfl (HO.out _ _) _ 1 1 [.string ⟨x.1.toArray⟩] rfl rfl (new2 _ _ _ _) (by simp [Value.oneCell']) ?c1 ?c2 ?c3 ?_)
      case c1 => unfold maxLen; omega
      case c2 => omega
      case c3 => simp; omega
      intro v' w2 hown' hgr _
      rw [← nameCells_succ HX.out] at hown'
      have hB2 := (HB.out _ _).grown hgr (by have := (HB.out (.cells #[.string ⟨x.1.toArray⟩, .string ⟨x.2.toArray⟩] 55) (.cells #[.string ⟨x.1.toArray⟩] 9)).size; exact this) (hlt2 default default)
      have HO2 := Lib.hid hown'
      clear hown' hgr
      go_wp2_with fail
      exact ⟨⟨k + 1, _, by omega, rfl, by go_num, HO2.out, hB2⟩, by simp [intOf]; omega⟩
    · obtain rfl : k = 30 := by omega
      have HO := Lib.hid hown
      clear hown
      go_wp2_with fail
      go_ret
      exact ⟨_, rfl, HO.out, hB⟩
end Go.Proofs.YtefijebbndnnjaaDoor.W
