/- The contract of Lookup. -/
import Derived.Test.YtefijebbndnnjaaDoorLaid
import Derived.Test.YtefijebbndnnjaaDoorLookP
import Derived.Lib.Hide
set_option linter.unusedVariables false
namespace Go.Proofs.YtefijebbndnnjaaDoor.W
open Go.RowKit

/-- what Lookup returns -/
def lookV : Option (List UInt8) → Value
  | some c => .tuple #[.string ⟨c.toArray⟩, .bool true]
  | none => .tuple #[.string ⟨#[]⟩, .bool false]
def LkR (w : World) (s : List UInt8) (lv hv : Value) (wr : World) : Prop :=
  ∃ lo hi : Nat, lv = .int .i64 (lo : Int) ∧ hv = .int .i64 (hi : Int) ∧ Srch s lo hi ∧ Below w.heap.size w wr

set_option maxRecDepth 100000 in
set_option maxHeartbeats 4000000 in
theorem lookup_any (s : ByteArray) (w : World) (hL : Laid w) :
    Calls Tryd.prog 18 #[.string s] w fun e w' => e = .returned (lookV (lookP s.data.toList)) ∧ Below w.heap.size w w' := by
  have HL := Lib.hid hL
  clear hL
  go_enter Tryd.func18, Tryd.ntmps18
  go_wp2_with fail
  go_loopw [4, 5] (fun lv hv wr => LkR w s.data.toList lv hv wr) (fun lv hv _ => (intOf hv).toNat - (intOf lv).toNat)
  case atStart => exact ⟨0, 30, rfl, rfl, Srch.init _, Below.refl _ _⟩
  case round =>
    obtain ⟨lo, hi, rfl, rfl, hS, hB⟩ := hrel
    have HS := Lib.hid hS
    have hle := hS.le
    have htop := hS.top
    clear hS
    by_cases hlt : lo < hi
    · obtain ⟨m, hm⟩ : ∃ m : Nat, (lo + hi) / 2 = m := ⟨_, rfl⟩
      obtain ⟨x, hx⟩ : ∃ x, tabE[m]? = some x := ⟨_, List.getElem?_eq_getElem (by have e : tabE.length = 30 := rfl; omega)⟩
      have g0 : wr.cell? ⟨0, m * 2, none⟩ = some (.string ⟨x.1.toArray⟩) := by rw [Nat.mul_comm]; exact ((HL.out.below hB).tab m x hx).1
      have hmi : ((lo : Int) + (hi : Int)) / 2 = (m : Int) := by omega
      have eb : Op.bytesLess x.1 s.toList = Op.bytesLess x.1 s.data.toList := by rw [ByteArray.toList_eq]
      have HX := Lib.hid hx
      clear hx
      by_cases hl : Op.bytesLess x.1 s.data.toList = true
      · have hl' := eb.trans hl
        have HR := Lib.hid (HS.out.right HX.out (by omega) (by omega) hl)
        clear hl eb
        go_wp2_with fail
        refine ⟨⟨m + 1, hi, by go_num, rfl, HR.out, hB⟩, by simp [intOf]; omega⟩
      · have hl1 : Op.bytesLess x.1 s.data.toList = false := by simpa using hl
        have hl' := eb.trans hl1
        have HR := Lib.hid (HS.out.left HX.out (by omega) (by omega) hl1)
        clear hl hl1 eb
        go_wp2_with fail
        rw [hmi]
        refine ⟨⟨lo, m, rfl, rfl, HR.out, hB⟩, by simp [intOf]; omega⟩
    · obtain rfl : lo = hi := by omega
      by_cases h30 : lo < 30
      · obtain ⟨x, hx⟩ : ∃ x, tabE[lo]? = some x := ⟨_, List.getElem?_eq_getElem (by have e : tabE.length = 30 := rfl; omega)⟩
        have g0 : wr.cell? ⟨0, lo * 2, none⟩ = some (.string ⟨x.1.toArray⟩) := by rw [Nat.mul_comm]; exact ((HL.out.below hB).tab lo x hx).1
        have g1 : wr.cell? ⟨0, lo * 2 + 1, none⟩ = some (.string ⟨x.2.toArray⟩) := by rw [Nat.mul_comm]; exact ((HL.out.below hB).tab lo x hx).2
        by_cases he : x.1 = s.data.toList
        · have HQ := Lib.hid (HS.out.found hx he)
          clear hx
          have he' : (x.1 == s.toList) = true := by rw [ByteArray.toList_eq]; simpa using he
          clear he
          go_wp2_with fail
          go_ret2
          exact ⟨by rw [HQ.out]; rfl, hB⟩
        · have HQ := Lib.hid (HS.out.absent (fun y hy => by rw [hx] at hy; cases hy; exact he))
          clear hx
          have he' : (x.1 == s.toList) = false := by rw [ByteArray.toList_eq]; simpa using he
          clear he
          go_wp2_with fail
          go_ret2
          exact ⟨by rw [HQ.out]; rfl, hB⟩
      · have HQ := Lib.hid (HS.out.absent (fun y hy => by have := (List.getElem?_eq_some_iff.1 hy).1; have e : tabE.length = 30 := rfl; omega))
        go_wp2_with fail
        go_ret2
        exact ⟨by rw [HQ.out]; rfl, hB⟩
end Go.Proofs.YtefijebbndnnjaaDoor.W
