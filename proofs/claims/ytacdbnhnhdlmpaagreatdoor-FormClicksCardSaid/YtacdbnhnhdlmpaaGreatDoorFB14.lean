/- Texts joined: Cany Nm Sel Mn Mr MrB Mo Mcut. -/
import Derived.Test.YtacdbnhnhdlmpaaGreatDoorFB13
import Derived.Test.YtacdbnhnhdlmpaaGreatDoorFB6
import Derived.Laws.RangeAny
import Derived.Laws.Runes
import Derived.WalkMore
import Derived.Deep.QuietTactic
import Derived.BigQuiet
import Derived.ScopeJumps
import Derived.Test.YtacdbnhnhdlmpaaGreatDoorFB12
import Derived.Test.YtacdbnhnhdlmpaaGreatDoorFB1
import Derived.LoopTactic
import Derived.Test.YtacdbnhnhdlmpaaGreatDoorFB8
import Derived.Deep.RegionLaw
import Derived.Deep.RegionHeld3
set_option maxRecDepth 100000
set_option maxHeartbeats 40000000
set_option linter.unusedVariables false
set_option linter.unusedSimpArgs false
section
namespace Go.Proofs.YtacdbnhnhdlmpaaGreatDoor.W
open Go.RowKit
theorem decode_no_surr (s : ByteArray) (pos : Nat) : ((Utf8.decode s pos).1 < 55296 ∨ 57344 ≤ (Utf8.decode s pos).1) ∧ (Utf8.decode s pos).1 ≤ 1114111 := by
  rw [Lib.decode_at]
  have k0 := (s.get! pos).toNat_lt
  have k1 := (s.get! (pos + 1)).toNat_lt
  have k2 := (s.get! (pos + 2)).toNat_lt
  have k3 := (s.get! (pos + 3)).toNat_lt
  unfold Lib.decodeN
  repeat' split
  all_goals (simp only []; omega)
theorem encode_two (r : Int) (h0 : 128 ≤ r) (h1 : r < 2048) : ∃ x y : UInt8, Utf8.encode r = ⟨#[x, y]⟩ ∧ 128 ≤ y.toNat := by
  have hv : Utf8.valid r = true := by unfold Utf8.valid; simp; omega
  refine ⟨UInt8.ofNat (0xC0 + r.toNat / 64), UInt8.ofNat (0x80 + r.toNat % 64), ?_, ?_⟩
  · unfold Utf8.encode
    simp only [hv, if_true]
    rw [if_neg (by omega), if_pos (by omega)]
  · rw [UInt8.toNat_ofNat']
    omega
theorem encode_three (r : Int) (h0 : 2048 ≤ r) (h1 : r < 65536) (hs : r < 55296 ∨ 57344 ≤ r) : ∃ x y z : UInt8, Utf8.encode r = ⟨#[x, y, z]⟩ ∧ 128 ≤ z.toNat := by
  have hv : Utf8.valid r = true := by unfold Utf8.valid; simp; omega
  refine ⟨UInt8.ofNat (0xE0 + r.toNat / 4096), UInt8.ofNat (0x80 + r.toNat / 64 % 64), UInt8.ofNat (0x80 + r.toNat % 64), ?_, ?_⟩
  · unfold Utf8.encode
    simp only [hv, if_true]
    rw [if_neg (by omega), if_neg (by omega), if_pos (by omega)]
  · rw [UInt8.toNat_ofNat']
    omega
theorem encode_four (r : Int) (h0 : 65536 ≤ r) (h1 : r ≤ 1114111) : ∃ x y z u : UInt8, Utf8.encode r = ⟨#[x, y, z, u]⟩ ∧ 128 ≤ u.toNat := by
  have hv : Utf8.valid r = true := by unfold Utf8.valid; simp; omega
  refine ⟨UInt8.ofNat (0xF0 + r.toNat / 262144), UInt8.ofNat (0x80 + r.toNat / 4096 % 64), UInt8.ofNat (0x80 + r.toNat / 64 % 64), UInt8.ofNat (0x80 + r.toNat % 64), ?_, ?_⟩
  · unfold Utf8.encode
    simp only [hv, if_true]
    rw [if_neg (by omega), if_neg (by omega), if_neg (by omega)]
  · rw [UInt8.toNat_ofNat']
    omega
theorem no_byte (l : List UInt8) (h : ∀ b ∈ l, b.toNat < 128) (y : UInt8) (hy : 128 ≤ y.toNat) : Lib.indexByte l y = -1 := by
  induction l with
  | nil => rfl
  | cons b l ih =>
    have hb := h b (by simp)
    have hne : ¬ b = y := fun e => by subst e; omega
    have := ih (fun c hc => h c (by simp [hc]))
    simp [Lib.indexByte, hne, this]
set_option maxRecDepth 100000 in
set_option maxHeartbeats 4000000 in
theorem indexRune_two (r : Int) (h0 : 128 ≤ r) (h1 : r < 2048) (w : World) :
    Calls Tryz.prog 166 #[.string ⟨#[9, 10, 12, 13, 32, 47, 62]⟩, .int .i32 r] w fun e w' => e = .returned (.int .i64 (-1)) ∧ Below w.heap.size w w' := by
  have HV := Lib.hid (Tryz.utf8_ValidRune r w)
  have hv : Lib.validRune r = true := by unfold Lib.validRune; simp; omega
  rw [hv] at HV
  obtain ⟨x, y, he, hy⟩ := encode_two r h0 h1
  have d0 : decide ((0 : Int) ≤ r) = true := by simp; omega
  have d1 : decide (r < 128) = false := by simp; omega
  have d2 : (r == 65533) = false := by simp; omega
  have HB := Lib.hid (fun wx => Tryz.strings_IndexByte ((⟨#[9, 10, 12, 13, 32, 47, 62]⟩ : ByteArray).extract 2 7) (y.toNat : Int) wx)
  have hB : Lib.indexByte ((⟨#[9, 10, 12, 13, 32, 47, 62]⟩ : ByteArray).extract 2 7).data.toList ((y.toNat : Int)).toNat.toUInt8 = -1 := no_byte _ (fun b hb => by
    have e : ((⟨#[9, 10, 12, 13, 32, 47, 62]⟩ : ByteArray).extract 2 7).data.toList = [12, 13, 32, 47, 62] := by rfl
    rw [e] at hb
    simp only [List.mem_cons, List.not_mem_nil, or_false] at hb
    rcases hb with rfl | rfl | rfl | rfl | rfl <;> decide) _ (by simpa using hy)
  simp only [hB] at HB
  have e1 : ((((⟨#[9, 10, 12, 13, 32, 47, 62]⟩ : ByteArray)[1]'(by decide)).toNat : Int) != (((⟨#[x, y]⟩ : ByteArray)[1]'(by show 1 < 2; omega)).toNat : Int)) = true := by
    show (((10 : Int)) != (y.toNat : Int)) = true
    simp
    omega
  clear hv hB
  go_enter Tryz.func166, Tryz.ntmps166
  go_wp2_with fail
  refine HV.out.mono ?_
  rintro e wz ⟨rfl, hw⟩
  subst wz
  go_wp2_with fail
  go_step3
  go_wp2_with fail
  go_loopw [9] (fun iv wr => iv = .int .i64 1 ∧ wr = w) (fun _ _ => 0)
  case atStart => exact ⟨rfl, rfl⟩
  case round =>
    obtain ⟨rfl, hw⟩ := hrel
    subst wr
    go_wp2_with fail
    go_step3
    go_upto_region 6 with fail
    go_quiet (fail)
    go_upto_region 7 with fail
    have hne := stb_ne (w.drewN nq)
    refine reg_b (fun _ => .int .i64 (-1)) 8 (by kernel_rfl) (by kernel_rfl) ?_
    simp only [List.take_succ_cons, List.take_zero, List.drop_succ_cons, List.drop_zero]
    repeat (first
      | (refine m_held (by rfl) (by rfl) (fun K hK => ?_); go_big_quiet_step (fail); refine wpQuiet_nil ?_; refine hK.out _ ?_; clear hK K)
      | (refine m_skip (by rfl) ?_; simp only [Act.put, List.setIfInBounds_toArray, List.set_cons_zero, List.set_cons_succ]))
    refine m_call (.int .i64 (-1)) rfl (by rfl) (by rfl) (fun w => by go_simp; exact ⟨rfl, rfl⟩) ?_ ?_
    · intro X wx hx
      refine (HB.out _).mono ?_
      rintro e wz ⟨rfl, hw⟩
      subst wz
      exact ⟨rfl, hx⟩
    simp only [Act.put, List.setIfInBounds_toArray, List.set_cons_zero, List.set_cons_succ]
    repeat (first
      | (refine m_held (by rfl) (by rfl) (fun K hK => ?_); go_big_quiet_step (fail); refine wpQuiet_nil ?_; refine hK.out _ ?_; clear hK K)
      | (refine m_skip (by rfl) ?_; simp only [Act.put, List.setIfInBounds_toArray, List.set_cons_zero, List.set_cons_succ]))
    refine m_nil ?_
    intro w2 h2
    go_wp2_with fail
    rw [Exit.noGoto_ret]
    simp only [Exit.inBlock]
    show Exit.noGoto _ Exit.ret _ _
    rw [Exit.noGoto_ret]
    simp only [Exit.inBlock, Exit.then]
    rw [Exit.noGoto_ret]
    go_ret
    exact ⟨rfl, (Below.drewN (Below.refl _ _) _).trans (h2.mono (by simp))⟩
set_option maxRecDepth 100000 in
set_option maxHeartbeats 4000000 in
theorem indexRune_three (r : Int) (h0 : 2048 ≤ r) (h1 : r < 65536) (hs : r < 55296 ∨ 57344 ≤ r) (hx : r ≠ 65533) (w : World) :
    Calls Tryz.prog 166 #[.string ⟨#[9, 10, 12, 13, 32, 47, 62]⟩, .int .i32 r] w fun e w' => e = .returned (.int .i64 (-1)) ∧ Below w.heap.size w w' := by
  have HV := Lib.hid (Tryz.utf8_ValidRune r w)
  have hv : Lib.validRune r = true := by unfold Lib.validRune; simp; omega
  rw [hv] at HV
  obtain ⟨x, y, z, he, hy⟩ := encode_three r h0 h1 hs
  have d0 : decide ((0 : Int) ≤ r) = true := by simp; omega
  have d1 : decide (r < 128) = false := by simp; omega
  have d2 : (r == 65533) = false := by simp; omega
  have HB := Lib.hid (fun wx => Tryz.strings_IndexByte ((⟨#[9, 10, 12, 13, 32, 47, 62]⟩ : ByteArray).extract 3 7) (z.toNat : Int) wx)
  have hB : Lib.indexByte ((⟨#[9, 10, 12, 13, 32, 47, 62]⟩ : ByteArray).extract 3 7).data.toList ((z.toNat : Int)).toNat.toUInt8 = -1 := no_byte _ (fun b hb => by
    have e : ((⟨#[9, 10, 12, 13, 32, 47, 62]⟩ : ByteArray).extract 3 7).data.toList = [13, 32, 47, 62] := by rfl
    rw [e] at hb
    simp only [List.mem_cons, List.not_mem_nil, or_false] at hb
    rcases hb with rfl | rfl | rfl | rfl <;> decide) _ (by simpa using hy)
  simp only [hB] at HB
  have e1 : ((((⟨#[9, 10, 12, 13, 32, 47, 62]⟩ : ByteArray)[2]'(by decide)).toNat : Int) != (((⟨#[x, y, z]⟩ : ByteArray)[2]'(by show 2 < 3; omega)).toNat : Int)) = true := by
    show (((12 : Int)) != (z.toNat : Int)) = true
    simp
    omega
  clear hv hB
  go_enter Tryz.func166, Tryz.ntmps166
  go_wp2_with fail
  refine HV.out.mono ?_
  rintro e wz ⟨rfl, hw⟩
  subst wz
  go_wp2_with fail
  go_step3
  go_wp2_with fail
  go_loopw [9] (fun iv wr => iv = .int .i64 2 ∧ wr = w) (fun _ _ => 0)
  case atStart => exact ⟨rfl, rfl⟩
  case round =>
    obtain ⟨rfl, hw⟩ := hrel
    subst wr
    go_wp2_with fail
    go_step3
    go_upto_region 6 with fail
    go_quiet (fail)
    go_upto_region 7 with fail
    have hne := stb_ne (w.drewN nq)
    refine reg_b (fun _ => .int .i64 (-1)) 8 (by kernel_rfl) (by kernel_rfl) ?_
    simp only [List.take_succ_cons, List.take_zero, List.drop_succ_cons, List.drop_zero]
    repeat (first
      | (refine m_held (by rfl) (by rfl) (fun K hK => ?_); go_big_quiet_step (fail); refine wpQuiet_nil ?_; refine hK.out _ ?_; clear hK K)
      | (refine m_skip (by rfl) ?_; simp only [Act.put, List.setIfInBounds_toArray, List.set_cons_zero, List.set_cons_succ]))
    refine m_call (.int .i64 (-1)) rfl (by rfl) (by rfl) (fun w => by go_simp; exact ⟨rfl, rfl⟩) ?_ ?_
    · intro X wx hx
      refine (HB.out _).mono ?_
      rintro e wz ⟨rfl, hw⟩
      subst wz
      exact ⟨rfl, hx⟩
    simp only [Act.put, List.setIfInBounds_toArray, List.set_cons_zero, List.set_cons_succ]
    repeat (first
      | (refine m_held (by rfl) (by rfl) (fun K hK => ?_); go_big_quiet_step (fail); refine wpQuiet_nil ?_; refine hK.out _ ?_; clear hK K)
      | (refine m_skip (by rfl) ?_; simp only [Act.put, List.setIfInBounds_toArray, List.set_cons_zero, List.set_cons_succ]))
    refine m_nil ?_
    intro w2 h2
    go_wp2_with fail
    rw [Exit.noGoto_ret]
    simp only [Exit.inBlock]
    show Exit.noGoto _ Exit.ret _ _
    rw [Exit.noGoto_ret]
    simp only [Exit.inBlock, Exit.then]
    rw [Exit.noGoto_ret]
    go_ret
    exact ⟨rfl, (Below.drewN (Below.refl _ _) _).trans (h2.mono (by simp))⟩
set_option maxRecDepth 100000 in
set_option maxHeartbeats 4000000 in
theorem indexRune_four (r : Int) (h0 : 65536 ≤ r) (h1 : r ≤ 1114111) (w : World) :
    Calls Tryz.prog 166 #[.string ⟨#[9, 10, 12, 13, 32, 47, 62]⟩, .int .i32 r] w fun e w' => e = .returned (.int .i64 (-1)) ∧ Below w.heap.size w w' := by
  have HV := Lib.hid (Tryz.utf8_ValidRune r w)
  have hv : Lib.validRune r = true := by unfold Lib.validRune; simp; omega
  rw [hv] at HV
  obtain ⟨x, y, z, u, he, hy⟩ := encode_four r h0 h1
  have d0 : decide ((0 : Int) ≤ r) = true := by simp; omega
  have d1 : decide (r < 128) = false := by simp; omega
  have d2 : (r == 65533) = false := by simp; omega
  have HB := Lib.hid (fun wx => Tryz.strings_IndexByte ((⟨#[9, 10, 12, 13, 32, 47, 62]⟩ : ByteArray).extract 4 7) (u.toNat : Int) wx)
  have hB : Lib.indexByte ((⟨#[9, 10, 12, 13, 32, 47, 62]⟩ : ByteArray).extract 4 7).data.toList ((u.toNat : Int)).toNat.toUInt8 = -1 := no_byte _ (fun b hb => by
    have e : ((⟨#[9, 10, 12, 13, 32, 47, 62]⟩ : ByteArray).extract 4 7).data.toList = [32, 47, 62] := by rfl
    rw [e] at hb
    simp only [List.mem_cons, List.not_mem_nil, or_false] at hb
    rcases hb with rfl | rfl | rfl <;> decide) _ (by simpa using hy)
  simp only [hB] at HB
  have e1 : ((((⟨#[9, 10, 12, 13, 32, 47, 62]⟩ : ByteArray)[3]'(by decide)).toNat : Int) != (((⟨#[x, y, z, u]⟩ : ByteArray)[3]'(by show 3 < 4; omega)).toNat : Int)) = true := by
    show (((13 : Int)) != (u.toNat : Int)) = true
    simp
    omega
  clear hv hB
  go_enter Tryz.func166, Tryz.ntmps166
  go_wp2_with fail
  refine HV.out.mono ?_
  rintro e wz ⟨rfl, hw⟩
  subst wz
  go_wp2_with fail
  go_step3
  go_wp2_with fail
  go_loopw [9] (fun iv wr => iv = .int .i64 3 ∧ wr = w) (fun _ _ => 0)
  case atStart => exact ⟨rfl, rfl⟩
  case round =>
    obtain ⟨rfl, hw⟩ := hrel
    subst wr
    go_wp2_with fail
    go_step3
    go_upto_region 6 with fail
    go_quiet (fail)
    go_upto_region 7 with fail
    have hne := stb_ne (w.drewN nq)
    refine reg_b (fun _ => .int .i64 (-1)) 8 (by kernel_rfl) (by kernel_rfl) ?_
    simp only [List.take_succ_cons, List.take_zero, List.drop_succ_cons, List.drop_zero]
    repeat (first
      | (refine m_held (by rfl) (by rfl) (fun K hK => ?_); go_big_quiet_step (fail); refine wpQuiet_nil ?_; refine hK.out _ ?_; clear hK K)
      | (refine m_skip (by rfl) ?_; simp only [Act.put, List.setIfInBounds_toArray, List.set_cons_zero, List.set_cons_succ]))
    refine m_call (.int .i64 (-1)) rfl (by rfl) (by rfl) (fun w => by go_simp; exact ⟨rfl, rfl⟩) ?_ ?_
    · intro X wx hx
      refine (HB.out _).mono ?_
      rintro e wz ⟨rfl, hw⟩
      subst wz
      exact ⟨rfl, hx⟩
    simp only [Act.put, List.setIfInBounds_toArray, List.set_cons_zero, List.set_cons_succ]
    repeat (first
      | (refine m_held (by rfl) (by rfl) (fun K hK => ?_); go_big_quiet_step (fail); refine wpQuiet_nil ?_; refine hK.out _ ?_; clear hK K)
      | (refine m_skip (by rfl) ?_; simp only [Act.put, List.setIfInBounds_toArray, List.set_cons_zero, List.set_cons_succ]))
    refine m_nil ?_
    intro w2 h2
    go_wp2_with fail
    rw [Exit.noGoto_ret]
    simp only [Exit.inBlock]
    show Exit.noGoto _ Exit.ret _ _
    rw [Exit.noGoto_ret]
    simp only [Exit.inBlock, Exit.then]
    rw [Exit.noGoto_ret]
    go_ret
    exact ⟨rfl, (Below.drewN (Below.refl _ _) _).trans (h2.mono (by simp))⟩
set_option maxRecDepth 100000 in
set_option maxHeartbeats 4000000 in
theorem indexRune_bad (w : World) :
    Calls Tryz.prog 166 #[.string ⟨#[9, 10, 12, 13, 32, 47, 62]⟩, .int .i32 65533] w fun e w' => e = .returned (.int .i64 (-1)) ∧ Below w.heap.size w w' := by
  have HD := Lib.hid (fun (pos : Nat) (hp : pos < 7) => (show ∃ c : Nat, c < 128 ∧ Utf8.decode ⟨#[9, 10, 12, 13, 32, 47, 62]⟩ pos = (c, 1) from by
    have hs : (⟨#[9, 10, 12, 13, 32, 47, 62]⟩ : ByteArray).size = 7 := rfl
    have ha : ((⟨#[9, 10, 12, 13, 32, 47, 62]⟩ : ByteArray)[pos]'(by rw [hs]; exact hp)).toNat < 128 := by
      have hm : (⟨#[9, 10, 12, 13, 32, 47, 62]⟩ : ByteArray)[pos]'(by rw [hs]; exact hp) ∈ ([9, 10, 12, 13, 32, 47, 62] : List UInt8) := by
        show (#[9, 10, 12, 13, 32, 47, 62] : Array UInt8)[pos]'hp ∈ _
        exact Array.mem_toList_iff.2 (Array.getElem_mem hp)
      generalize (⟨#[9, 10, 12, 13, 32, 47, 62]⟩ : ByteArray)[pos]'(by rw [hs]; exact hp) = b at hm
      simp only [List.mem_cons, List.not_mem_nil, or_false] at hm
      rcases hm with rfl | rfl | rfl | rfl | rfl | rfl | rfl <;> decide
    exact ⟨_, ha, decode_ascii _ pos (by rw [hs]; exact hp) ha⟩))
  have hs : (⟨#[9, 10, 12, 13, 32, 47, 62]⟩ : ByteArray).size = 7 := rfl
  generalize (⟨#[9, 10, 12, 13, 32, 47, 62]⟩ : ByteArray) = s at *
  go_enter Tryz.func166, Tryz.ntmps166
  go_wp2_with fail
  go_loopw [5, 6] (fun _ _ wr => ∃ pos : Nat, pos ≤ 7 ∧ wr.heap[w.heap.size]? = some (.stringIter s pos) ∧ Below w.heap.size w wr) (fun _ _ wr => 7 - wr.iterPos w.heap.size)
  case atStart =>
    refine ⟨0, by omega, ?_, (Below.refl _ w).alloc (Nat.le_refl _) _⟩
    have := World.iter_heap w s 0
    simpa using this
  case round =>
    obtain ⟨pos, hpos, hit, hb⟩ := hrel
    by_cases hp : pos < 7
    · obtain ⟨c, hc, hd⟩ := HD.out pos hp
      have hnx : ∀ ty, (Instr.next (.pointer (some ⟨w.heap.size, 0, none⟩)) true ty).run Tryz.prog wr = _ := fun ty => Lib.run_next_any_at wr w.heap.size s pos ty hit (by omega)
      rw [hd] at hnx
      have hit2 := Lib.iterAt_heap wr w.heap.size s pos (pos + 1) hit
      have hbw2 := Lib.below_iterAt hb (k := w.heap.size) (by omega) s (pos + 1)
      have e1 : (((c : Nat) : Int) == 65533) = false := by simp; omega
      go_wp2_with fail
      refine ⟨⟨pos + 1, by omega, hit2, hbw2⟩, ?_⟩
      simp only [World.iterPos, hit2, hit]
      omega
    · have hnx : ∀ ty, (Instr.next (.pointer (some ⟨w.heap.size, 0, none⟩)) true ty).run Tryz.prog wr = _ := fun ty => Lib.run_next_end_at wr w.heap.size s pos ty hit (by omega)
      go_wp2_with fail
      go_ret
      exact ⟨rfl, hb⟩
theorem indexRune_any (r : Int) (h0 : 128 ≤ r) (h1 : r < 55296 ∨ 57344 ≤ r) (h2 : r ≤ 1114111) (w : World) :
    Calls Tryz.prog 166 #[.string ⟨#[9, 10, 12, 13, 32, 47, 62]⟩, .int .i32 r] w fun e w' => e = .returned (.int .i64 (-1)) ∧ Below w.heap.size w w' := by
  by_cases q0 : r = 65533
  · subst q0; exact indexRune_bad w
  by_cases q1 : r < 2048
  · exact indexRune_two r h0 q1 w
  by_cases q2 : r < 65536
  · exact indexRune_three r (by omega) q2 h1 q0 w
  · exact indexRune_four r (by omega) h2 w
theorem dec_bytes (s : ByteArray) (pos : Nat) (h : pos < s.size) (ha : 128 ≤ bz s pos) : pos + (Utf8.decode s pos).2 ≤ s.size ∧ ∀ j, pos ≤ j → j < pos + (Utf8.decode s pos).2 → 128 ≤ bz s j := by
  have hj : ∀ j w, w ≤ 4 → pos ≤ j → j < pos + w → (w ≤ 1 ∨ 128 ≤ bz s (pos + 1)) → (w ≤ 2 ∨ 128 ≤ bz s (pos + 2)) → (w ≤ 3 ∨ 128 ≤ bz s (pos + 3)) → 128 ≤ bz s j := by
    intro j w hw h1 h2 c1 c2 c3
    rcases (show j = pos ∨ j = pos + 1 ∨ j = pos + 2 ∨ j = pos + 3 by omega) with rfl | rfl | rfl | rfl
    · exact ha
    · rcases c1 with c | c
      · omega
      · exact c
    · rcases c2 with c | c
      · omega
      · exact c
    · rcases c3 with c | c
      · omega
      · exact c
  rw [Lib.decode_at]
  change _ ∧ ∀ j, _ → j < pos + (Lib.decodeN (s.size - pos) (bz s pos) (bz s (pos + 1)) (bz s (pos + 2)) (bz s (pos + 3))).2 → _
  have key : ∀ w, (Lib.decodeN (s.size - pos) (bz s pos) (bz s (pos + 1)) (bz s (pos + 2)) (bz s (pos + 3))).2 = w → w ≤ 4 ∧ pos + w ≤ s.size ∧ (w ≤ 1 ∨ 128 ≤ bz s (pos + 1)) ∧ (w ≤ 2 ∨ 128 ≤ bz s (pos + 2)) ∧ (w ≤ 3 ∨ 128 ≤ bz s (pos + 3)) := by
    intro w hw
    subst hw
    generalize bz s pos = b0 at *
    generalize bz s (pos + 1) = b1 at *
    generalize bz s (pos + 2) = b2 at *
    generalize bz s (pos + 3) = b3 at *
    unfold Lib.decodeN
    repeat' split
    all_goals (simp only []; omega)
  obtain ⟨k1, k2, k3, k4, k5⟩ := key _ rfl
  exact ⟨k2, fun j h1 h2 => hj j _ k1 h1 h2 k3 k4 k5⟩
def spL : List UInt8 := [9, 10, 12, 13, 32, 47, 62]
theorem spL_low (x : UInt8) (h : 128 ≤ x.toNat) : spL.contains x = false := by
  unfold spL
  simp only [List.contains_cons, List.contains_nil, Bool.or_false, Bool.or_eq_false_iff, beq_eq_false_iff_ne]
  refine ⟨?_, ?_, ?_, ?_, ?_, ?_, ?_⟩ <;> (rintro rfl; revert h; decide)
theorem noAny_high (s : ByteArray) (pos : Nat) (hno : Lib.NoAny s.data.toList spL pos) (w : Nat) (hb : ∀ j, pos ≤ j → j < pos + w → 128 ≤ bz s j) (hw : pos + w ≤ s.size) : Lib.NoAny s.data.toList spL (pos + w) := by
  intro j b hj hjb
  by_cases h : j < pos
  · exact hno j b h hjb
  · have := hb j (by omega) hj
    refine spL_low b ?_
    rw [bz_at s j (by omega)] at this
    have e : s.data.toList[j]? = some (s[j]'(by omega)) := Lib.data_getElem? s j (by omega)
    rw [e] at hjb
    cases hjb
    exact this
set_option maxRecDepth 100000 in
set_option maxHeartbeats 4000000 in
theorem indexAny_short (s : ByteArray) (w : World) (h8 : s.size ≤ 8) :
    Calls Tryz.prog 154 #[.string s, .string ⟨#[9, 10, 12, 13, 32, 47, 62]⟩] w fun e w' => e = .returned (.int .i64 (Lib.indexAny s.data.toList spL)) ∧ Below w.heap.size w w' := by
  have h8z : decide ((8 : Int) < (s.size : Int)) = false := decide_eq_false (by omega)
  have HU := Lib.hid (fun wx => Tryz.strings_shouldUseASCIISet (s.size : Int) wx)
  simp only [h8z] at HU
  have HIA := Lib.hid (fun (x : UInt8) (hx : x.toNat < 128) wx => Tryz.strings_IndexRune_ascii ⟨#[9, 10, 12, 13, 32, 47, 62]⟩ (x.toNat : Int) wx (by omega) (by omega))
  have HIH := Lib.hid (fun r h0 h1 h2 wx => indexRune_any r h0 h1 h2 wx)
  have hsp : (⟨#[9, 10, 12, 13, 32, 47, 62]⟩ : ByteArray).data.toList = spL := rfl
  have h7 : (⟨#[9, 10, 12, 13, 32, 47, 62]⟩ : ByteArray).size = 7 := rfl
  have hne : ((⟨#[9, 10, 12, 13, 32, 47, 62]⟩ : ByteArray).toList == []) = false := by rw [ByteArray.toList_mk]; rfl
  have hne2 : (⟨#[9, 10, 12, 13, 32, 47, 62]⟩ : ByteArray).toList ≠ [] := by rw [ByteArray.toList_mk]; decide
  have hsp2 : ([9, 10, 12, 13, 32, 47, 62] : List UInt8) = spL := rfl
  generalize hch : (⟨#[9, 10, 12, 13, 32, 47, 62]⟩ : ByteArray) = ch at *
  simp only [hsp] at HIA
  clear hsp2
  go_enter Tryz.func154, Tryz.ntmps154
  go_wp2_with fail
  refine (HU.out _).mono ?_
  rintro e w1 ⟨rfl, hw⟩
  subst w1
  go_wp2_with fail
  go_loopw [9, 10] (fun _ _ wr => ∃ pos : Nat, pos ≤ s.size ∧ wr.heap[w.heap.size]? = some (.stringIter s pos) ∧ Below w.heap.size w wr ∧ Lib.NoAny s.data.toList spL pos) (fun _ _ wr => s.size - wr.iterPos w.heap.size)
  case atStart =>
    refine ⟨0, by omega, ?_, (Below.refl _ w).alloc (Nat.le_refl _) _, Lib.NoAny.zero _ _⟩
    have := World.iter_heap w s 0
    simpa using this
  case round =>
    obtain ⟨pos, hpos, hit, hb, hno⟩ := hrel
    have HN := Lib.hid hno
    clear hno
    by_cases hp : pos < s.size
    · have hnx : ∀ ty, (Instr.next (.pointer (some ⟨w.heap.size, 0, none⟩)) true ty).run Tryz.prog wr = _ := fun ty => Lib.run_next_any_at wr w.heap.size s pos ty hit hp
      have hxl : s.data.toList[pos]? = some (s[pos]'hp) := Lib.data_getElem? s pos hp
      by_cases ha : (s[pos]'hp).toNat < 128
      · rw [decode_ascii s pos hp ha] at hnx
        have hit2 := Lib.iterAt_heap wr w.heap.size s pos (pos + 1) hit
        have hbw2 := Lib.below_iterAt hb (k := w.heap.size) (by omega) s (pos + 1)
        generalize hx : s[pos]'hp = x at *
        have hcon := Lib.contains_iff_indexByte spL x
        have hback : ((x.toNat : Int)).toNat.toUInt8 = x := by simp
        have HI := Lib.hid (fun wx => HIA.out x ha wx)
        simp only [hback] at HI
        cases hin : spL.contains x
        · rw [hin] at hcon
          have hlt : ¬ ((0 : Int) ≤ Lib.indexByte spL x) := of_decide_eq_false hcon.symm
          have HX := Lib.hid hxl
          have HIn := Lib.hid hin
          clear hcon hxl hin
          go_wp2_with fail
          refine (HI.out _).mono ?_
          rintro e w3 ⟨rfl, hw⟩
          subst w3
          go_wp2_with fail
          refine ⟨⟨pos + 1, by omega, hit2, hbw2, HN.out.succ HX.out HIn.out⟩, ?_⟩
          simp only [World.iterPos, hit2, hit]
          omega
        · rw [hin] at hcon
          have hge : (0 : Int) ≤ Lib.indexByte spL x := of_decide_eq_true hcon.symm
          have HX := Lib.hid hxl
          have HIn := Lib.hid hin
          clear hcon hxl hin
          go_wp2_with fail
          refine (HI.out _).mono ?_
          rintro e w3 ⟨rfl, hw⟩
          subst w3
          go_wp2_with fail
          go_ret
          exact ⟨by rw [Lib.indexAny_hit HN.out HX.out HIn.out]; rfl, hbw2⟩
      · have hz : 128 ≤ bz s pos := by rw [bz_at s pos hp]; omega
        obtain ⟨hle, hbs⟩ := dec_bytes s pos hp hz
        have hw := width_pos s pos hp
        obtain ⟨hs1, hs2⟩ := decode_no_surr s pos
        have hhi := (decode_high s pos hp (by omega)).1
        have hit2 := Lib.iterAt_heap wr w.heap.size s pos (pos + (Utf8.decode s pos).2) hit
        have hbw2 := Lib.below_iterAt hb (k := w.heap.size) (by omega) s (pos + (Utf8.decode s pos).2)
        have HI := Lib.hid (fun wx => HIH.out ((Utf8.decode s pos).1 : Int) (by omega) (by omega) (by omega) wx)
        have HNN := Lib.hid (noAny_high s pos HN.out _ hbs hle)
        clear hbs hxl
        go_wp2_with fail
        refine (HI.out _).mono ?_
        rintro e w3 ⟨rfl, hb3⟩
        have hit3 : w3.heap[w.heap.size]? = some (.stringIter s (pos + (Utf8.decode s pos).2)) := (hb3.block _ (lt_of_block' hit2)).trans hit2
        go_wp2_with fail
        refine ⟨⟨_, hle, hit3, hbw2.trans (hb3.mono hbw2.size), HNN.out⟩, ?_⟩
        simp only [World.iterPos, hit3, hit]
        omega
    · have hnx : ∀ ty, (Instr.next (.pointer (some ⟨w.heap.size, 0, none⟩)) true ty).run Tryz.prog wr = _ := fun ty => Lib.run_next_end_at wr w.heap.size s pos ty hit hp
      obtain rfl : pos = s.size := by omega
      go_wp2_with fail
      go_ret
      exact ⟨by rw [Lib.indexAny_none (by rw [Array.length_toList]; exact HN.out)]; rfl, hb⟩
theorem indexAny_any (s : ByteArray) (w : World) (hs : s.size ≤ 1000000) :
    Calls Tryz.prog 154 #[.string s, .string ⟨#[9, 10, 12, 13, 32, 47, 62]⟩] w fun e w' => e = .returned (.int .i64 (Lib.indexAny s.data.toList spL)) ∧ Below w.heap.size w w' := by
  by_cases h8 : s.size ≤ 8
  · exact indexAny_short s w h8
  · refine (Tryz.strings_IndexAny_long (zero_of_info (v := .agg (Array.replicate 256 (.bool false))) (n := 256) (by kernel_rfl)).1 s ⟨#[9, 10, 12, 13, 32, 47, 62]⟩ w (by decide) (by omega) (by omega) (by decide) (ascii_of (by decide))).mono ?_
    rintro e w' ⟨rfl, rfl⟩
    exact ⟨rfl, ((Below.refl _ _).alloc (Nat.le_refl _) _).alloc (by simp) _⟩
theorem containsAny_any (s : ByteArray) (w : World) (hs : s.size ≤ 1000000) :
    Calls Tryz.prog 129 #[.string s, .string ⟨#[9, 10, 12, 13, 32, 47, 62]⟩] w fun e w' => e = .returned (.bool (Lib.containsAny s.data.toList spL)) ∧ Below w.heap.size w w' := by
  have HI := Lib.hid (indexAny_any s w hs)
  go_enter Tryz.func129, Tryz.ntmps129
  go_wp2_with fail
  refine HI.out.mono ?_
  rintro e w1 ⟨rfl, hb⟩
  go_wp2_with fail
  go_ret
  exact ⟨rfl, hb⟩
def okA (l : List UInt8) : Bool := decide (l ≠ []) && (Lib.validD l && decide (l.map lowB = l)) && !Lib.containsAny l spL
def headB (l : List UInt8) : Bool := okA l && decide (Lib.indexByte (l.drop 1) 61 < 0)
def elmB (l : List UInt8) : Bool := okA l && (decide (97 ≤ (l.getD 0 0).toNat) && decide ((l.getD 0 0).toNat ≤ 122))
theorem bsz (l : List UInt8) : (⟨l.toArray⟩ : ByteArray).size = l.length := by show l.toArray.size = _; simp
set_option maxRecDepth 100000 in
set_option maxHeartbeats 2000000 in
theorem textValid_b (l : List UInt8) (w : World) (hs : l.length ≤ 100000000) (hT : Laid w) : Calls Tryz.prog 152 #[.string ⟨l.toArray⟩] w fun e w' => e = .returned (.bool (Lib.validD l)) ∧ Below w.heap.size w w' := by
  have H := Lib.hid (valid_any ⟨l.toArray⟩ w (by show l.toArray.size ≤ _; simp; omega) hT)
  simp only [show (⟨l.toArray⟩ : ByteArray).data.toList = l from rfl] at H
  go_enter Tryz.func152, Tryz.ntmps152
  go_wp2_with fail
  refine H.out.mono ?_
  rintro e w' ⟨rfl, hb⟩
  go_wp2_with fail
  go_ret
  exact ⟨rfl, hb⟩
set_option maxRecDepth 100000 in
set_option maxHeartbeats 2000000 in
theorem lower_b (l : List UInt8) (w : World) (hs : l.length ≤ 100000000) (hT : Laid w) : Calls Tryz.prog 128 #[.string ⟨l.toArray⟩] w fun e w' => e = .returned (.bool (Lib.validD l && decide (l.map lowB = l))) ∧ Below w.heap.size w w' := by
  have HV := Lib.hid (textValid_b l w hs hT)
  have HL := Lib.hid (fun wx => lower_bytes ⟨l.toArray⟩ (by show l.toArray.size ≤ _; simp; omega) wx)
  simp only [show (⟨l.toArray⟩ : ByteArray).data.toList = l from rfl] at HL
  have hse := str_eq (l.map lowB) l
  clear hT
  cases hv : Lib.validD l
  · rw [hv] at HV
    go_enter Tryz.func128, Tryz.ntmps128
    go_wp2_with fail
    refine HV.out.mono ?_
    rintro e w' ⟨rfl, hb1⟩
    go_wp2_with fail
    go_ret
    exact ⟨rfl, hb1⟩
  · rw [hv] at HV
    rw [Bool.true_and]
    generalize (⟨(l.map lowB).toArray⟩ : ByteArray) = s1 at *
    generalize (⟨l.toArray⟩ : ByteArray) = s at *
    go_enter Tryz.func128, Tryz.ntmps128
    go_wp2_with fail
    refine HV.out.mono ?_
    rintro e w' ⟨rfl, hb1⟩
    go_wp2_with fail
    refine (HL.out _).mono ?_
    rintro e w2 ⟨rfl, hb⟩
    go_wp2_with fail
    go_ret
    exact ⟨by first | rfl | simp [hse], bthen hb1 hb⟩
theorem neq_nil (l : List UInt8) (h : l ≠ []) : ((⟨l.toArray⟩ : ByteArray).toList == (⟨#[]⟩ : ByteArray).toList) = false ∧ ((⟨l.toArray⟩ : ByteArray).toList == []) = false ∧ (⟨l.toArray⟩ : ByteArray).toList ≠ [] := by
  refine ⟨?_, ?_, ?_⟩
  · rw [show (⟨#[]⟩ : ByteArray) = ⟨([] : List UInt8).toArray⟩ from rfl, str_eq]
    exact decide_eq_false h
  · rw [ByteArray.toList_mk]; simpa using h
  · rw [ByteArray.toList_mk]; exact h
theorem extract_one (l : List UInt8) : (⟨l.toArray⟩ : ByteArray).extract 1 l.length = ⟨(l.drop 1).toArray⟩ := by
  apply ByteArray.ext
  apply Array.toList_inj.1
  have := Lib.extract_to_end ⟨l.toArray⟩ 1
  rw [bsz] at this
  exact this
set_option maxRecDepth 100000 in
set_option maxHeartbeats 4000000 in
theorem attrName_b (l : List UInt8) (hl : l.length ≤ 1000000) (w : World) (hT : Laid w) : Calls Tryz.prog 88 #[.string ⟨l.toArray⟩] w fun e w' => e = .returned (.bool (headB l)) ∧ Below w.heap.size w w' := by
  unfold headB okA
  by_cases hn : l = []
  · subst hn
    go_enter Tryz.func88, Tryz.ntmps88
    go_wp2_with fail
    go_ret
    exact ⟨rfl, Below.refl _ _⟩
  · rw [decide_eq_true hn, Bool.true_and]
    have hsz := bsz l
    have hl0 : 1 ≤ l.length := by cases l with | nil => exact absurd rfl hn | cons a t => simp
    have HV := Lib.hid (lower_b l w (by omega) hT)
    have HC := Lib.hid (fun w => containsAny_any ⟨l.toArray⟩ w (by rw [hsz]; omega))
    simp only [show (⟨l.toArray⟩ : ByteArray).data.toList = l from rfl] at HC
    have hx := extract_one l
    have HI := Lib.hid (fun w => Tryz.strings_IndexByte ⟨(l.drop 1).toArray⟩ 61 w)
    simp only [show (⟨(l.drop 1).toArray⟩ : ByteArray).data.toList = l.drop 1 from rfl, show (61 : Int).toNat.toUInt8 = 61 from rfl] at HI
    obtain ⟨hne, hne3, hne4⟩ := neq_nil l hn
    generalize hs : (⟨l.toArray⟩ : ByteArray) = s at *
    clear hT hs
    generalize (⟨(l.drop 1).toArray⟩ : ByteArray) = s1 at *
    generalize (Lib.validD l && decide (l.map lowB = l)) = bl at *
    generalize Lib.containsAny l spL = bc at *
    generalize Lib.indexByte (l.drop 1) 61 = ib at *
    cases bl
    · go_enter Tryz.func88, Tryz.ntmps88
      go_wp2_with fail
      refine HV.out.mono ?_
      rintro e w1 ⟨rfl, hb1⟩
      go_wp2_with fail
      go_ret
      exact ⟨rfl, hb1⟩
    · cases bc
      · go_enter Tryz.func88, Tryz.ntmps88
        go_wp2_with fail
        refine HV.out.mono ?_
        rintro e w1 ⟨rfl, hb1⟩
        go_wp2_with fail
        refine (HC.out _).mono ?_
        rintro e w2 ⟨rfl, hb2⟩
        go_wp2_with fail
        refine (HI.out _).mono ?_
        rintro e w3 ⟨rfl, hw⟩
        rw [hw]
        go_wp2_with fail
        go_ret
        exact ⟨rfl, bthen hb1 hb2⟩
      · go_enter Tryz.func88, Tryz.ntmps88
        go_wp2_with fail
        refine HV.out.mono ?_
        rintro e w1 ⟨rfl, hb1⟩
        go_wp2_with fail
        refine (HC.out _).mono ?_
        rintro e w2 ⟨rfl, hb2⟩
        go_wp2_with fail
        go_ret
        exact ⟨rfl, bthen hb1 hb2⟩
theorem getD_zero (l : List UInt8) (h : 0 < (⟨l.toArray⟩ : ByteArray).size) : ((⟨l.toArray⟩ : ByteArray)[0]'h) = l.getD 0 0 := by
  cases l with
  | nil => exact absurd h (by decide)
  | cons a t => rfl
set_option maxRecDepth 100000 in
set_option maxHeartbeats 4000000 in
theorem elementName_b (l : List UInt8) (hl : l.length ≤ 1000000) (w : World) (hT : Laid w) : Calls Tryz.prog 107 #[.string ⟨l.toArray⟩] w fun e w' => e = .returned (.bool (elmB l)) ∧ Below w.heap.size w w' := by
  unfold elmB okA
  by_cases hn : l = []
  · subst hn
    go_enter Tryz.func107, Tryz.ntmps107
    go_wp2_with fail
    go_ret
    exact ⟨rfl, Below.refl _ _⟩
  · rw [decide_eq_true hn, Bool.true_and]
    have hsz := bsz l
    have hl0 : 1 ≤ l.length := by cases l with | nil => exact absurd rfl hn | cons a t => simp
    have h0 : 0 < (⟨l.toArray⟩ : ByteArray).size := by rw [hsz]; omega
    have hg := getD_zero l h0
    have HV := Lib.hid (lower_b l w (by omega) hT)
    have HC := Lib.hid (fun w => containsAny_any ⟨l.toArray⟩ w (by rw [hsz]; omega))
    simp only [show (⟨l.toArray⟩ : ByteArray).data.toList = l from rfl] at HC
    obtain ⟨hne, hne3, hne4⟩ := neq_nil l hn
    generalize hs : (⟨l.toArray⟩ : ByteArray) = s at *
    clear hT hs
    generalize (Lib.validD l && decide (l.map lowB = l)) = bl at *
    generalize Lib.containsAny l spL = bc at *
    rw [← hg]
    clear hg
    by_cases c0 : 97 ≤ (s[0]'h0).toNat
    · have d0 : decide ((97 : Int) ≤ ((s[0]'h0).toNat : Int)) = true := by simp; omega
      rw [decide_eq_true c0]
      by_cases c1 : (s[0]'h0).toNat ≤ 122
      · have d1 : decide (((s[0]'h0).toNat : Int) ≤ 122) = true := by simp; omega
        rw [decide_eq_true c1]
        cases bl
        · go_enter Tryz.func107, Tryz.ntmps107
          go_wp2_with fail
          refine HV.out.mono ?_
          rintro e w1 ⟨rfl, hb1⟩
          go_wp2_with fail
          go_ret
          exact ⟨rfl, hb1⟩
        · cases bc
          · go_enter Tryz.func107, Tryz.ntmps107
            go_wp2_with fail
            refine HV.out.mono ?_
            rintro e w1 ⟨rfl, hb1⟩
            go_wp2_with fail
            refine (HC.out _).mono ?_
            rintro e w2 ⟨rfl, hb2⟩
            go_wp2_with fail
            go_ret
            exact ⟨rfl, bthen hb1 hb2⟩
          · go_enter Tryz.func107, Tryz.ntmps107
            go_wp2_with fail
            refine HV.out.mono ?_
            rintro e w1 ⟨rfl, hb1⟩
            go_wp2_with fail
            refine (HC.out _).mono ?_
            rintro e w2 ⟨rfl, hb2⟩
            go_wp2_with fail
            go_ret
            exact ⟨rfl, bthen hb1 hb2⟩
      · have d1 : decide (((s[0]'h0).toNat : Int) ≤ 122) = false := by simp; omega
        rw [decide_eq_false c1]
        go_enter Tryz.func107, Tryz.ntmps107
        go_wp2_with fail
        go_ret
        exact ⟨by simp, Below.refl _ _⟩
    · have d0 : decide ((97 : Int) ≤ ((s[0]'h0).toNat : Int)) = false := by simp; omega
      rw [decide_eq_false c0]
      go_enter Tryz.func107, Tryz.ntmps107
      go_wp2_with fail
      go_ret
      exact ⟨by simp, Below.refl _ _⟩
/-! ### the reference -/
/-! ### the two agree -/

structure MN where
  kind : Int
  name : List UInt8
  attrs : List Atr
  data : List UInt8
  par : Option Nat
  kids : List Nat
  gone : Bool
structure MX where
  m : MN
  av : Value
  kv : Value
theorem own_belowM {w w' : World} {e size n : Nat} {v : Value} {xs : List Value} (h : Own w e size v n xs) (hb : Below w.heap.size w w') : Own w' e size v n xs := own_keepB h hb
def ms (X : List MX) : List MN := X.map (·.m)


theorem own_blk {w : World} {e size n b : Nat} {v : Value} {xs : List Value} (h : Own w e size v n xs) (hb : v.ownBlock = some b) : ∃ cur, w.heap[b]? = some (.cells cur e (0, 0)) := own_ty h hb
theorem etI : ET Tryz.prog 60 3 1 8 := ET.mk' (z := .int .i64 0) Tryz.underlying60 (by kernel_rfl) rfl (by omega)
end Go.Proofs.YtacdbnhnhdlmpaaGreatDoor.W
end
