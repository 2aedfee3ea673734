/- awake returns true. -/
import Derived.Test.YtfdofkokiaapoaaObsF
namespace Go.Proofs.Ytfdofkokiaapoaa.W
open Go.RowKit
set_option linter.unusedVariables false

/-- a new State -/
theorem st_new {B : Nat} {w0 w : World} {l : List Ob} (h : All B w0 l w) (g : Nat) (hg : w.heap.size = g) : All B w0 (stL g (.slice none 0 0) 0 [] ++ l) (w.alloc (.cells #[.slice none 0 0, .slice none 0 0, .int .i64 0] 27)) :=
  ((h.nil 55 4).newBkA g hg [.slice none 0 0, .slice none 0 0, .int .i64 0] 27)
/-- a slice of sizes is one of some -/
theorem st_slice {B : Nat} {w0 w : World} {g : Nat} {zv : Value} {nx : Int} {z : Zv} {zs : List Zv} {l : List Ob} (h : All B w0 (stL g zv nx (z :: zs) ++ l) w) : ∃ zg zc, zv = .slice (some ⟨zg, 0, none⟩) (z :: zs).length zc := by
  have hr : Own _ _ _ _ _ _ := h.tail.head
  obtain ⟨zg, zc, h1, _⟩ := own_some hr (by simp)
  exact ⟨zg, zc, h1⟩
theorem map_one {zs' : List Zv} {z : Zr} (h : zs'.map (·.1) = [z]) : ∃ a b, zs' = [(z, a, b)] := by
  match zs', h with
  | [(u, a, b)], h =>
    simp at h
    subst h
    exact ⟨a, b, rfl⟩

set_option maxRecDepth 100000 in
set_option maxHeartbeats 1000000 in
theorem awake_any (w : World) : Calls Try.prog 5 #[] w fun e w' => e = .returned (.bool true) ∧ Below w.heap.size w w' := by
  have h0 := st_new (All.start w) w.heap.size rfl
  obtain ⟨g, hg⟩ : ∃ g, w.heap.size = g := ⟨_, rfl⟩
  have HC := Lib.hid (create_any h0 4 (by omega) (by omega) (by simp))
  rw [hg] at HC
  clear h0
  go_enter Try.func5, Try.ntmps5
  go_wp2_with fail
  refine HC.out.mono ?_
  rintro e w1 ⟨zv, rfl, hA1⟩
  obtain ⟨zg, zc, rfl⟩ := st_slice hA1
  have HO := Lib.hid (observe_new (z1 := []) (z2 := []) (z := ⟨1, 4, [], []⟩) hA1 (by simp) (by simp) 9 (by simp) rfl)
  clear hA1 HC
  go_wp2_with fail
  refine HO.out.mono ?_
  rintro e w2 ⟨a2, rfl, hA2⟩
  have hA3 := (hA2.newSlA w2.heap.size rfl 41 3 1 (rows encZ [(9, 3, 5)]) rfl (by omega)).perm List.perm_middle.symm
  have HM := Lib.hid (measure_any (lv := .slice (some ⟨w2.heap.size, 0, none⟩) 1 1) (L := [(9, 3, 5)]) hA3 rfl (by simp) (by simp [zl]) (by simp) (by simp [Zr.watch]))
  clear hA2 hA3 HO
  go_wp2_with fail
  refine HM.out.mono ?_
  rintro e w3 ⟨zs', rfl, hm, hA4⟩
  obtain ⟨a4, b4, rfl⟩ := map_one (z := ⟨1, 4, [(9, 3, 5)], [(9, 3, 5)]⟩) (hm.trans (by simp [Zr.meas, Zr.watch, nowOf, stepE, putEn]))
  have HD := Lib.hid (deliver_some (z1 := []) (z2 := []) (z := ⟨1, 4, [(9, 3, 5)], [(9, 3, 5)]⟩) hA4 (by simp) (by simp) (by simp) (by simp [nextOf, nextStep]))
  clear hm hA4 HM
  go_wp2_with fail
  refine HD.out.mono ?_
  rintro e w4 ⟨rfl, hA5⟩
  have ho : Own _ _ _ _ _ _ := hA5.P (zl b4 [(9, 3, 5)]) (by simp)
  obtain ⟨bg, bc, rfl, ⟨e0, e1, e2⟩, ef, elt⟩ := z_cells (k := 0) ho rfl
  have hB := Lib.hid hA5.below
  clear HD hA5 ho
  simp only [Nat.zero_mul] at e0 e1 e2
  have hbn : bg ≠ w4.heap.size := by omega
  go_wp2_with fail
  go_ret
  refine ⟨rfl, ?_⟩
  have h := hB.out
  subst hg
  exact h.alloc h.size _
end Go.Proofs.Ytfdofkokiaapoaa.W
