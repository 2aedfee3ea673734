/- Drop. -/
import Derived.Test.YtfdofkokiaapoaaGreatDoorDrpGw
import Derived.Test.YtfdofkokiaapoaaGreatDoorGv24
import Derived.Test.YtfdofkokiaapoaaGreatDoorGv23
namespace Go.Proofs.YtfdofkokiaapoaaGreatDoor.W
open Go.RowKit
set_option linter.unusedVariables false
set_option linter.unusedSimpArgs false

def DrR (B : Nat) (w0 : World) (g zg zc r3 : Nat) (nx t : Int) (zs : List Oz) (l : List Ob) (iv : Value) (wr : World) : Prop :=
  ∃ zp : List Oz, zp.length ≤ zs.length ∧ iv = .int .i64 (zp.length : Int) ∧ (∀ (j : Nat) (x y : Oz), zs[j]? = some x → zp[j]? = some y → y.1 = { x.1 with ws := dropW x.1.ws t }) ∧
    All B w0 (bk r3 [.int .i64 t] 3 :: (stF g (.slice (some ⟨zg, 0, none⟩) zs.length zc) nx (zp ++ zs.drop zp.length) ++ l)) wr

set_option maxRecDepth 100000 in
set_option maxHeartbeats 4000000 in
theorem drop_any {B : Nat} {w0 w : World} {g zg zc : Nat} {nx : Int} {zs : List Oz} {l : List Ob} (h : All B w0 (stF g (.slice (some ⟨zg, 0, none⟩) zs.length zc) nx zs ++ l) w) (t : Int) (hn : zs.length ≤ 1000) (hok : ∀ z ∈ zs, z.1.ws.length ≤ 1000 ∧ ∀ y ∈ z.1.ws, ∃ a n c, y.fv = .slice a n c) :
    Calls Tryz.prog 16 #[.pointer (some ⟨g, 0, none⟩), .int .i64 t] w fun e w' => ∃ zs', e = .returned (.tuple #[]) ∧ zs'.length = zs.length ∧ (∀ (j : Nat) (x y : Oz), zs[j]? = some x → zs'[j]? = some y → y.1 = { x.1 with ws := dropW x.1.ws t }) ∧
      All B w0 (stF g (.slice (some ⟨zg, 0, none⟩) zs.length zc) nx zs' ++ l) w' := by
  have hA0 := h.newBkA w.heap.size rfl [.int .i64 t] 3
  have HA0 := Lib.hid hA0
  have HOk := Lib.hid hok
  clear h hA0 hok
  go_enter Tryz.func16, Tryz.ntmps16
  go_upto_region 1 with fail
  generalize hr3 : w.heap.size = r3 at *
  have HA1 := Lib.hid HA0.out
  clear HA0
  generalize w.alloc (.cells #[.int .i64 t] 3) = w1 at *
  have hst : Blk w1 g [.slice (some ⟨zg, 0, none⟩) zs.length zc, .slice none 0 0, .int .i64 nx] 34 := HA1.out.tail.head
  have c0 := hst.cell 0
  simp only [List.getElem?_cons_zero] at c0
  clear hst
  go_wp2_with fail
  go_loopw [13] (fun iv wr => DrR B w0 g zg zc r3 nx t zs l iv wr) (fun iv _ => zs.length - (intOf iv).toNat)
  case atStart => exact ⟨[], Nat.zero_le _, rfl, (fun j x y _ hy => by simp at hy), HA1.out⟩
  case round =>
    clear HA1 c0
    obtain ⟨zp, hzp, rfl, hsame, hA⟩ := hrel
    by_cases hil : zp.length < zs.length
    · obtain ⟨⟨z, a, b⟩, hz⟩ : ∃ x, zs[zp.length]? = some x := ⟨_, List.getElem?_eq_getElem hil⟩
      have hdr := drop_at hz
      have hlen : (zp ++ (z, a, b) :: zs.drop (zp.length + 1)).length = zs.length := by
        rw [← hdr, List.length_append, List.length_drop]
        omega
      rw [hdr] at hA
      have hA' := hA
      rw [← hlen] at hA'
      obtain ⟨⟨_, _, q2, _⟩, qf, hzlt, c0, _, ha, hb⟩ := om_cellsF hA'.tail
      rw [hlen] at c0
      obtain ⟨aa, ac, rfl⟩ := own_shape ha
      obtain ⟨hw1, hw2⟩ := HOk.out _ (List.mem_of_getElem? hz)
      simp only at hw1 hw2
      rw [stF_split] at hA
      have hA2 : All B w0 ((bk r3 [.int .i64 t] 3 :: ([_, _] ++ obF zp)) ++ sl 58 7 (.slice aa z.ws.length ac) z.ws.length (rows encW z.ws) :: (rl b z.rs :: (obF (zs.drop (zp.length + 1)) ++ l))) wr := hA
      have HDl := Lib.hid (delete_wt (x := t) (gx := r3) hA2 (by simp) (by omega) hw2)
      have R2 := Lib.hid (rows_at (enc := encO) encO_len _ zp.length _ (get_mid zp (z, Value.slice aa z.ws.length ac, b) (zs.drop (zp.length + 1))) 2 (by decide))
      have HLen := Lib.hid hlen
      have HZ := Lib.hid hz
      have HSm := Lib.hid hsame
      generalize hi : zp.length = i at *
      have HI := Lib.hid hi
      have qf2 := qf (i * 4 + 2)
      clear hA hA' hA2 ha hb hw1 hw2 qf hsame hz hdr hlen hi
      go_wp2_with fail
      refine HDl.out.mono ?_
      rintro e w2 ⟨v', rfl, hA3⟩
      have ho : Own _ _ _ _ _ _ := hA3.P (sl 58 7 v' (dropW z.ws t).length (rows encW (dropW z.ws t))) (by simp)
      obtain ⟨va, vc, rfl⟩ := own_shape ho
      have hrow : Own w2 _ _ _ _ _ := hA3.tail.tail.head
      rw [HLen.out] at hrow
      have d2 := (hrow.cellAt (i * 4 + 2) (by omega)).trans R2.out
      have df := hrow.frozenAt (i * 4 + 2)
      simp only [encO, List.getElem?_cons_zero, List.getElem?_cons_succ] at d2
      have HA3 := Lib.hid hA3
      clear q2 qf2 c0 hA3 ho hrow HDl
      go_wp2_with fail
      refine ⟨⟨zp ++ [({ z with ws := dropW z.ws t }, .slice va (dropW z.ws t).length vc, b)], by rw [List.length_append, HI.out]; simp; omega, by rw [List.length_append, HI.out]; simp, fun j x y hx hy => ?_, ?_⟩, by simp [intOf]; omega⟩
      · by_cases hj : j < i
        · rw [List.getElem?_append_left (by rw [HI.out]; exact hj)] at hy
          exact HSm.out j x y hx hy
        · have hji : j = i := by
            have := (List.getElem?_eq_some_iff.1 hy).1
            rw [List.length_append, HI.out] at this
            simp at this
            omega
          subst hji
          rw [List.getElem?_append_right (by rw [HI.out]; exact Nat.le_refl _), HI.out, Nat.sub_self] at hy
          simp at hy
          subst hy
          rw [HZ.out] at hx
          cases hx
          rfl
      · have h1 := HA3.out.perm (perm_x _ ([_, _] ++ obF zp) (obF (zs.drop (i + 1))) l _ _)
        rw [HLen.out] at h1
        have h2 := om_set2F (N := zs.length) (z := z) (a := .slice aa z.ws.length ac) (z' := { z with ws := dropW z.ws t }) h1 HLen.out rfl rfl
        rw [HI.out] at h2
        have e1 : zp ++ (({ z with ws := dropW z.ws t } : Ov), Value.slice va (dropW z.ws t).length vc, b) :: zs.drop (i + 1) = (zp ++ [({ z with ws := dropW z.ws t }, .slice va (dropW z.ws t).length vc, b)]) ++ zs.drop (zp ++ [(({ z with ws := dropW z.ws t } : Ov), Value.slice va (dropW z.ws t).length vc, b)]).length := by
          rw [List.length_append, HI.out, List.length_singleton, List.append_assoc]
          rfl
        rw [e1] at h2
        exact h2.perm List.perm_middle
    · have hzl : zp.length = zs.length := by omega
      rw [hzl, List.drop_of_length_le (Nat.le_refl _), List.append_nil] at hA
      have hc := cell1_F hA.tail
      have HA := Lib.hid hA
      have HSm := Lib.hid hsame
      have HZl := Lib.hid hzl
      rw [hzl]
      clear hA hsame hzl hzp hil
      go_wp2_with fail
      go_loopw [37] (fun iv wr2 => iv = .int .i64 0 ∧ wr = wr2) (fun _ _ => 0)
      case atStart => exact ⟨rfl, rfl⟩
      case round =>
        obtain ⟨rfl, hw⟩ := hrel
        subst hw
        go_wp2_with fail
        go_end0
        exact ⟨zp, rfl, HZl.out, HSm.out, HA.out.tail⟩
end Go.Proofs.YtfdofkokiaapoaaGreatDoor.W
