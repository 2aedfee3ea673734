/- What the listed variables hold (Laid), and utf8.ValidString by the kit its contract. -/
import Derived.Shelf.Unicode.ValidAny
import Derived.Lib.LaidU8T
import Derived.Test.YtefijebbndnnjaaDoorRows
import Derived.Test.YtefijebbndnnjaaDoorBld
import Derived.Test.YtefijebbndnnjaaDoorEntP
set_option linter.unusedVariables false
namespace Go.Proofs
open Go.Shelf
def Tryd.laysValid_ren : Go.Shelf.Ren := ⟨fun | 196 => 38 | 259 => 49 | n => n, fun | 9 => 9 | 4 => 4 | 3 => 3 | 5 => 5 | 12 => 12 | 119 => 80 | 0 => 0 | 46 => 84 | 139 => 83 | 138 => 82 | 53 => 91 | n => n, fun | 3 => 1 | 4 => 2 | n => n⟩
theorem Tryd.laysValid : Go.Proofs.Lays.n196 Tryd.prog Tryd.laysValid_ren := {
  mixed := by kernel_rfl
  f196 := Tryd.func38.trans (congrArg some (by kernel_rfl))
  f259 := Tryd.func49.trans (congrArg some (by kernel_rfl))
  t0 := Tryd.underlying0
  a0 := Tryd.isAgg0
  z0 := Tryd.sizeOf0
  v0 := Tryd.zeroValue0
  t3 := Tryd.underlying3
  a3 := Tryd.isAgg3
  z3 := Tryd.sizeOf3
  v3 := Tryd.zeroValue3
  t4 := Tryd.underlying4
  a4 := Tryd.isAgg4
  z4 := Tryd.sizeOf4
  v4 := Tryd.zeroValue4
  t5 := Tryd.underlying5
  a5 := Tryd.isAgg5
  z5 := Tryd.sizeOf5
  v5 := Tryd.zeroValue5
  t9 := Tryd.underlying9
  a9 := Tryd.isAgg9
  z9 := Tryd.sizeOf9
  v9 := Tryd.zeroValue9
  t12 := Tryd.underlying12
  a12 := Tryd.isAgg12
  z12 := Tryd.sizeOf12
  v12 := Tryd.zeroValue12
  t46 := Tryd.underlying84
  a46 := Tryd.isAgg84
  z46 := Tryd.sizeOf84
  v46 := Tryd.zeroValue84
  t53 := Tryd.underlying91
  a53 := Tryd.isAgg91
  z53 := Tryd.sizeOf91
  v53 := Tryd.zeroValue91
  t119 := Tryd.underlying80
  a119 := Tryd.isAgg80
  z119 := Tryd.sizeOf80
  t138 := Tryd.underlying82
  a138 := Tryd.isAgg82
  z138 := Tryd.sizeOf82
  v138 := Tryd.zeroValue82
  t139 := Tryd.underlying83
  a139 := Tryd.isAgg83
  z139 := Tryd.sizeOf83
  v139 := Tryd.zeroValue83
  g3 := by kernel_rfl
  g4 := by kernel_rfl }
end Go.Proofs
namespace Go.Proofs.YtefijebbndnnjaaDoor.W
open Go.RowKit

/-- what the variables that the rows list hold -/
structure Laid (w : World) : Prop where
  tabs : Lib.Utf8Tabs 1 2 w
  tab : ∀ i x, tabE[i]? = some x → w.cell? ⟨0, 2 * i, none⟩ = some (.string ⟨x.1.toArray⟩) ∧ w.cell? ⟨0, 2 * i + 1, none⟩ = some (.string ⟨x.2.toArray⟩)
  maxl : ∃ m, w.cell? ⟨3, 0, none⟩ = some (.int .i64 m)

theorem cell_keep {w w' : World} (hb : Below w.heap.size w w') {a : Addr} {v : Value} (h : w.cell? a = some v) : w'.cell? a = some v := by
  rw [hb.cell (p := a) (World.block_lt_of_cell? w a h)]; exact h
theorem Laid.below {w w' : World} (h : Laid w) (hb : Below w.heap.size w w') : Laid w' where
  tabs := ⟨fun c hc => cell_keep hb (h.tabs.1 c hc), fun i hi => ⟨cell_keep hb (h.tabs.2 i hi).1, cell_keep hb (h.tabs.2 i hi).2⟩⟩
  tab := fun i x hx => ⟨cell_keep hb (h.tab i x hx).1, cell_keep hb (h.tab i x hx).2⟩
  maxl := let ⟨m, hm⟩ := h.maxl; ⟨m, cell_keep hb hm⟩

theorem valid_any (s : ByteArray) (w : World) (hs : s.size ≤ 9223372036854775807) (hT : Laid w) :
    Calls Tryd.prog 38 #[.string s] w fun e w' => e = .returned (.bool (Lib.validD s.data.toList)) ∧ Below w.heap.size w w' :=
  Any.utf8_ValidString Tryd.laysValid s w hs hT.tabs

/-- a struct whose fields are strings -/
theorem strs_of_struct {H : Type} {enc : TypeId × Value → H} {P : Program} {w : World} {base : Nat} {sp : Nat → Bool} {held : Bool} {fuel : Nat} {t : TypeId} {fs : Array Field} {cs : List Value} {zs : List (List UInt8)} {p : List MemPlace} (ht : P.underlying t = some (.struct fs))
    (hf : ∀ (i : Nat) (f : Field), fs[i]? = some f → P.underlying f.type = some .string ∧ f.offset = i ∧ P.cellsOf f.type = 1) (hct : P.cellsOf t = fs.size)
    (h : DataW.trod enc P w base sp held fuel t cs = some (.agg (zs.map fun z => .lit (.string z)), p)) : cs = zs.map fun z => Value.string ⟨z.toArray⟩ := by
  obtain ⟨xs, n, rfl, hx, hl, hxl, hall⟩ := DataW.trod_struct ht h
  have hxs : xs.map (·.1) = zs.map fun z => (DataW.lit (.string z) : DataW H) := by
    have := congrArg Prod.fst hx
    simpa using this.symm
  have hzl : zs.length = fs.size := by
    have := congrArg List.length hxs
    simp at this
    omega
  apply List.ext_getElem?
  intro i
  by_cases hi : i < fs.size
  · obtain ⟨hu, ho, hc⟩ := hf i fs[i] (by simp [hi])
    have h1 := hall i fs[i] (by simp [hi])
    obtain ⟨b, hb⟩ : ∃ b, xs[i]? = some b := ⟨xs[i]'(by omega), List.getElem?_eq_getElem (by omega)⟩
    rw [hb, ho, hc] at h1
    obtain ⟨z, hcz, rfl, _⟩ := DataW.trod_string hu h1
    have h2 : cs[i]? = some (.string z) := by
      have := congrArg (·[0]?) hcz
      simpa [List.getElem?_take, List.getElem?_drop] using this
    have h3 : (xs.map (·.1))[i]? = some (DataW.lit (.string z.data.toList) : DataW H) := by simp [hb]
    rw [hxs] at h3
    simp only [List.getElem?_map, Option.map_eq_some_iff, DataW.lit.injEq, Lit.string.injEq] at h3
    obtain ⟨z', hz', rfl⟩ := h3
    simp [h2, hz']
  · rw [List.getElem?_eq_none (by omega), List.getElem?_eq_none (by simp; omega)]

/-- the table as the row lists it -/
theorem tab_data : Rows.laid_knapsack_entity_table = (.agg (tabE.map fun x => .agg ([x.1, x.2].map fun z => .lit (.string z))) : DataW Unit) := rfl
theorem cells_named : Tryd.prog.cellsOf 55 = 2 := by kernel_rfl
theorem cells_str : Tryd.prog.cellsOf 9 = 1 := by kernel_rfl
theorem tab_of_reads {w : World} (h : Lib.VarReads Tryd.prog w "knapsack/entity.table" Rows.laid_knapsack_entity_table) (i : Nat) (x : List UInt8 × List UInt8) (hx : tabE[i]? = some x) :
    w.cell? ⟨0, 2 * i, none⟩ = some (.string ⟨x.1.toArray⟩) ∧ w.cell? ⟨0, 2 * i + 1, none⟩ = some (.string ⟨x.2.toArray⟩) := by
  obtain ⟨g, t, cs, fuel, p, hg, hty, hvar, hd⟩ := h
  obtain rfl := Option.some.inj ((show Tryd.prog.globalNamed "knapsack/entity.table" = some 0 by kernel_rfl).symm.trans hg)
  obtain rfl := Option.some.inj ((show (Tryd.prog.globals[0]?).map (·.type) = some 56 by kernel_rfl).symm.trans hty)
  rw [tab_data] at hd
  have hi : i < 30 := by
    have := (List.getElem?_eq_some_iff.1 hx).1
    exact this
  obtain ⟨fuel', d, q, hdi, he⟩ := Lib.array_elem Tryd.underlying56 hd i hi
  rw [List.getElem?_map, hx] at hdi
  obtain rfl := Option.some.inj hdi
  rw [cells_named] at he
  have hcs := strs_of_struct Tryd.underlying55 (fun j f hj => by
    match j, hj with
    | 0, hj => simp at hj; subst hj; exact ⟨Tryd.underlying9, rfl, cells_str⟩
    | 1, hj => simp at hj; subst hj; exact ⟨Tryd.underlying9, rfl, cells_str⟩
    | j + 2, hj => simp at hj) cells_named he
  have e0 := congrArg (·[0]?) hcs
  have e1 := congrArg (·[1]?) hcs
  simp only [List.getElem?_take, List.getElem?_drop] at e0 e1
  constructor
  · rw [World.var?_cell hg hvar (2 * i), ← Array.getElem?_toList]
    simpa [Nat.mul_comm] using e0
  · rw [World.var?_cell hg hvar (2 * i + 1), ← Array.getElem?_toList]
    simpa [Nat.mul_comm] using e1
end Go.Proofs.YtefijebbndnnjaaDoor.W
