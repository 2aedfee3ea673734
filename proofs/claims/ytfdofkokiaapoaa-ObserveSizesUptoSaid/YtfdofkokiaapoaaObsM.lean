/- The law's model: without, has, alike. -/
import Derived.Test.YtfdofkokiaapoaaObsV
namespace Go.Proofs.Ytfdofkokiaapoaa.W
open Go.RowKit
set_option linter.unusedVariables false

def LwR (w : World) (L : List Sz) (x : Int) (v iv : Value) (wr : World) : Prop := ∃ k : Nat, k ≤ L.length ∧ iv = .int .i64 (k : Int) ∧ All w.heap.size w [zl v (dropN (L.take k) x)] wr
theorem dropN_len (L : List Sz) (x : Int) : (dropN L x).length ≤ L.length := List.length_filter_le _ _

set_option maxRecDepth 100000 in
set_option maxHeartbeats 1000000 in
theorem lwithout_any {w : World} {v : Value} {L : List Sz} (x : Int) (h : Own w 41 3 v L.length (rows encZ L)) (hl : L.length ≤ 1000000) :
    Calls Try.prog 15 #[v, .int .i64 x] w fun e w' => ∃ v', e = .returned v' ∧ All w.heap.size w [zl v' (dropN L x)] w' := by
  obtain ⟨va, vc, rfl⟩ := own_shape h
  have H := Lib.hid h
  clear h
  go_enter Try.func15, Try.ntmps15
  go_wp2_with fail
  go_loopw [5, 9] (fun v iv wr => LwR w L x v iv wr) (fun _ iv _ => L.length - (intOf iv).toNat)
  case atStart => exact ⟨0, Nat.zero_le _, rfl, (All.start w).nil 41 3⟩
  case round =>
    obtain ⟨k, hk, rfl, hA⟩ := hrel
    by_cases hkl : k < L.length
    · obtain ⟨y, hy⟩ : ∃ y, L[k]? = some y := ⟨_, List.getElem?_eq_getElem hkl⟩
      obtain ⟨g, vc', he, ⟨q0, q1, q2⟩, qf, qlt⟩ := z_cells (own_below H.out hA.below) hy
      simp only [Value.slice.injEq, true_and] at he
      obtain ⟨rfl, rfl⟩ := he
      have HS := Lib.hid (dropN_succ x hy)
      obtain ⟨y0, y1, y2⟩ := y
      simp only at q0 q1 q2
      have HA := Lib.hid hA
      clear hA hy
      by_cases hyx : y0 = x
      · have e1 : (y0 != x) = false := by simpa using hyx
        have HS2 : Hid (dropN (L.take (k + 1)) x = dropN (L.take k) x) := Lib.hid (by rw [HS.out, if_pos hyx, List.append_nil])
        clear hyx
        go_wp2_with fail
        go_roundw
        case rel => exact ⟨k + 1, by omega, by go_num, by rw [HS2.out]; exact HA.out⟩
        case measure => simp [intOf]; omega
      · have e1 : (y0 != x) = true := by simpa using hyx
        have HS2 : Hid (dropN (L.take (k + 1)) x = dropN (L.take k) x ++ [(y0, y1, y2)]) := Lib.hid (by rw [HS.out, if_neg hyx])
        have hdl := dropN_len (L.take k) x
        have hdl2 : (dropN (L.take k) x).length ≤ 1000000 := by simp at hdl; omega
        have ho : Own _ _ _ _ _ _ := HA.out.head
        obtain ⟨oa, oc, rfl⟩ := own_shape ho
        generalize dropN (L.take k) x = D at *
        have H9 := Lib.hid (show All w.heap.size w ([] ++ sl 41 3 (.slice oa D.length oc) D.length (rows encZ D) :: []) _ from HA.out.alloc (.cells #[.int .i64 y0, .int .i64 y1, .int .i64 y2] 41))
        clear hyx ho hdl
        go_wp2_with (at_builtin; refine wpList_append_all etZ [] H9.out (own_at (n := 1) (size := 3) (Blk.new wr [.int .i64 y0, .int .i64 y1, .int .i64 y2] 41) rfl (by omega)) (by intro u hu; simp at hu; rcases hu with rfl | rfl | rfl <;> rfl) (by omega) (by omega) rfl _ _ rfl rfl rfl ?_; intro v' w3 hA3; have HB := Lib.hid hA3; clear hA3)
        go_roundw
        case rel =>
          refine ⟨k + 1, by omega, by go_num, ?_⟩
          rw [HS2.out]
          have e1 : (D ++ [(y0, y1, y2)]).length = D.length + 1 := by simp
          have e2 : rows encZ (D ++ [(y0, y1, y2)]) = rows encZ D ++ [.int .i64 y0, .int .i64 y1, .int .i64 y2] := rows_snoc _ _
          show All w.heap.size w [sl _ _ _ (D ++ [(y0, y1, y2)]).length (rows encZ (D ++ [(y0, y1, y2)]))] _
          rw [e1, e2]
          exact HB.out
        case measure => simp [intOf]; omega
    · obtain rfl : k = L.length := by omega
      have HA := Lib.hid hA
      clear hA
      go_wp2_with fail
      go_ret
      exact ⟨_, rfl, by have := HA.out; rw [List.take_length] at this; exact this⟩

set_option maxRecDepth 100000 in
theorem has_any {w : World} {gm o : Nat} {v : Value} {L : List Sz} (x : Int) (hc : w.cell? ⟨gm, o, none⟩ = some v) (h : Own w 41 3 v L.length (rows encZ L)) (hl : L.length ≤ 1000000) :
    Calls Try.prog 14 #[.pointer (some ⟨gm, o, none⟩), .int .i64 x] w fun e w' => e = .returned (.bool (decide ((dropN L x).length < L.length))) ∧ Below w.heap.size w w' := by
  obtain ⟨va, vc, rfl⟩ := own_shape h
  have H := Lib.hid h
  have hlt : gm < w.heap.size := World.block_lt_of_cell? w ⟨gm, o, none⟩ hc
  clear h
  go_enter Try.func14, Try.ntmps14
  go_wp2_with fail
  go_region_held3 (fun w' => w'.cell? ⟨gm, o, none⟩ = some (.slice va L.length vc)) (go_keep)
    (first
      | (go_at_call 15; refine (lwithout_any (w := w.drew) x H.out hl).mono ?_; rintro e w3 ⟨v', rfl, hA3⟩; have ho : Own _ _ _ _ _ _ := hA3.head; obtain ⟨oa, oc, rfl⟩ := own_shape ho; have hc3 := (hA3.below.cell (p := ⟨gm, o, none⟩) hlt).trans hc))
  have HB : Hid (Below w.heap.size w w3) := Lib.hid (((Below.refl w.heap.size w).drew).trans hA3.below)
  clear hA3 ho hc3 hc
  go_wp2_with fail
  go_ret
  exact ⟨rfl, HB.out⟩

def AlR (w : World) (n : Nat) (iv : Value) (wr : World) : Prop := ∃ k m : Nat, k ≤ n ∧ iv = .int .i64 (k : Int) ∧ wr = w.drewN m
set_option maxRecDepth 100000 in
theorem alike_any {w : World} {v1 v2 : Value} {L : List Sz} (h1 : Own w 41 3 v1 L.length (rows encZ L)) (h2 : Own w 41 3 v2 L.length (rows encZ L)) (hl : L.length ≤ 1000000) :
    Calls Try.prog 17 #[v1, v2] w fun e w' => e = .returned (.bool true) ∧ ∃ m, w' = w.drewN m := by
  obtain ⟨a1, c1, rfl⟩ := own_shape h1
  obtain ⟨a2, c2, rfl⟩ := own_shape h2
  have H1 := Lib.hid h1
  have H2 := Lib.hid h2
  clear h1 h2
  go_enter Try.func17, Try.ntmps17
  go_wp2_with fail
  go_loopw [13] (fun iv wr => AlR w L.length iv wr) (fun iv _ => L.length - (intOf iv).toNat)
  case atStart => exact ⟨0, 0, Nat.zero_le _, rfl, rfl⟩
  case round =>
    obtain ⟨k, m, hk, rfl, rfl⟩ := hrel
    by_cases hkl : k < L.length
    · obtain ⟨y, hy⟩ : ∃ y, L[k]? = some y := ⟨_, List.getElem?_eq_getElem hkl⟩
      obtain ⟨g1, k1, he, ⟨q0, q1, q2⟩, qf, qlt⟩ := z_cells H1.out hy
      simp only [Value.slice.injEq, true_and] at he
      obtain ⟨rfl, rfl⟩ := he
      obtain ⟨g2, k2, he, ⟨p0, p1, p2⟩, pf, plt⟩ := z_cells H2.out hy
      simp only [Value.slice.injEq, true_and] at he
      obtain ⟨rfl, rfl⟩ := he
      obtain ⟨y0, y1, y2⟩ := y
      simp only at q0 q1 q2 p0 p1 p2
      clear hy
      go_wp2_with fail
      go_quiet (fail)
      go_wp2_with fail
      go_roundw
      case rel => exact ⟨k + 1, _, by omega, by go_num, rfl⟩
      case measure => simp [intOf]; omega
    · go_wp2_with fail
      go_ret
      exact ⟨rfl, _, rfl⟩
end Go.Proofs.Ytfdofkokiaapoaa.W
