/- ArenaAt, the walk: for any Salt, any list of at most 100 numbers and any three handles the law returns true and changes nothing. -/
import Derived.Test.YtabmmampgmcibaaFilled
namespace Go.Proofs.Ytabmmampgmcibaa.W
open Go.RowKit
set_option linter.unusedVariables false

theorem look_put {A : Ar Int} {h : Int} {k : Nat} (hk : A.look h = some k) (v : Int) : (A.put k v).look h = some k ∧ (A.put k v).slots[k]? = some (true, v) := by
  obtain ⟨h1, h2, v0, hv⟩ := look_some hk
  have e : (A.put k v).slots[k]? = some (true, v) := by simp [Ar.put, h2]
  exact ⟨look_of h1 e, e⟩

def AtR (w : World) (g n : Nat) (gv : Value) (gs : List Int) (iv : Value) (wr : World) : Prop :=
  ∃ (i : Nat) (A : Ar Int) (sv fv : Value), i ≤ gs.length ∧ iv = .int .i64 (i : Int) ∧ A.slots.length = n ∧ All w.heap.size w [arI g A sv fv, gl gv gs] wr
def d3 (k : Nat) : Int := if k = 0 then 3 else if k = 1 then 1 else 200
theorem d3_lo (k : Nat) : 0 ≤ d3 k := by unfold d3; split; omega; split <;> omega
theorem d3_hi (k : Nat) : d3 k ≤ 255 := by unfold d3; split; omega; split <;> omega

theorem in_rng (b s : Int) (n : Nat) (h0 h1 h2 : Int) (k0 : -9223372036854775808 ≤ h0 ∧ h0 ≤ 9223372036854775807) (k1 : -9223372036854775808 ≤ h1 ∧ h1 ≤ 9223372036854775807) (k2 : -9223372036854775808 ≤ h2 ∧ h2 ≤ 9223372036854775807) :
    ∀ x ∈ hs b s n ++ [h0, h1, h2, 0, -1], -9223372036854775808 ≤ x ∧ x ≤ 9223372036854775807 := by
  intro x hx
  simp only [List.mem_append, List.mem_cons, List.not_mem_nil, or_false] at hx
  rcases hx with hx | rfl | rfl | rfl | rfl | rfl
  · simp only [hs, List.mem_map] at hx
    obtain ⟨j, _, rfl⟩ := hx
    exact ⟨hdl_lo .., hdl_hi ..⟩
  · exact k0
  · exact k1
  · exact k2
  · omega
  · omega
theorem gs_len (b s : Int) (n : Nat) (h0 h1 h2 : Int) (h : n ≤ 100) : (hs b s n ++ [h0, h1, h2, 0, -1]).length ≤ 105 := by simp [hs_len]; omega
theorem hcells_get (xs : List Int) {i : Nat} (h : i < xs.length) : (hcells xs)[i]? = some (.int .i64 xs[i]) := by simp [hcells, h]

set_option maxRecDepth 100000 in
theorem at_any (b s : Int) (la : Option Addr) (ln lc : Nat) (f : Nat → Int) (h0 h1 h2 : Int) (w : World)
    (hl : In w la ln (fun k => .int .i16 (f k))) (hf1 : ∀ k, -32768 ≤ f k) (hf2 : ∀ k, f k ≤ 32767)
    (k0 : -9223372036854775808 ≤ h0 ∧ h0 ≤ 9223372036854775807) (k1 : -9223372036854775808 ≤ h1 ∧ h1 ≤ 9223372036854775807) (k2 : -9223372036854775808 ≤ h2 ∧ h2 ≤ 9223372036854775807) :
    Calls Try.prog 6 #[.agg #[.int .i64 b, .int .i64 s], .slice la ln lc, .agg #[.int .i64 h0, .int .i64 h1, .int .i64 h2]] w fun e w' => e = .returned (.bool true) ∧ Below w.heap.size w w' := by
  have HR := Lib.hid (in_rng b s ln h0 h1 h2 k0 k1 k2)
  clear k0 k1 k2
  have HL := Lib.hid hl
  have HF1 := Lib.hid hf1
  have HF2 := Lib.hid hf2
  clear hl hf1 hf2
  have hA00 := ((All.start w).alloc (.cells #[.int .i64 b, .int .i64 s] 23)).alloc (.cells #[.int .i64 h0, .int .i64 h1, .int .i64 h2] 59)
  by_cases hn : ln ≤ 100
  · have hnb : decide ((100 : Int) < (ln : Int)) = false := by simp; omega
    go_enter Try.func6, Try.ntmps6
    go_wp2_with (go_at_call 11; refine (awake_any _).mono ?_; rintro e w1 ⟨rfl, hb1⟩; (obtain ⟨hc1, hf1⟩ := bcell hb1))
    have hl1 : In (w1.alloc (.cells #[.int .u8 3, .int .u8 1, .int .u8 200] 5)) la ln (fun k => .int .i16 (f k)) := HL.out.still (((hA00.still hb1).alloc _).below)
    have hd1 : In (w1.alloc (.cells #[.int .u8 3, .int .u8 1, .int .u8 200] 5)) (some ⟨w1.heap.size, 0, none⟩) 3 (fun k => .int .u8 (d3 k)) := fun _ => ⟨w1.heap.size, 0, rfl, by simp, fun k hk => by
      rcases k with _ | _ | _ | k
      · simp [d3]
      · simp [d3]
      · simp [d3]
      · omega⟩
    refine (filled_any b s la (some ⟨w1.heap.size, 0, none⟩) ln lc 3 3 f d3 _ hl1 hd1 (by omega) (by omega) HF1.out HF2.out d3_lo d3_hi).mono ?_
    rintro e w2 ⟨sv, fv, gv, rfl, hA2⟩
    have hA3 := ((hA00.still hb1).alloc (.cells #[.int .u8 3, .int .u8 1, .int .u8 200] 5)).after hA2
    obtain ⟨sa, sc, rfl⟩ := own_shape hA2.head
    obtain ⟨fa, fc, rfl⟩ := own_shape hA2.tail.head
    have hB2 : Below w1.heap.size w1 w2 := ((Below.refl _ _).alloc (Nat.le_refl _) _).trans (hA2.below.mono (by simp))
    have hbk := (((Blk.new (w.alloc (.cells #[.int .i64 b, .int .i64 s] 23)) [.int .i64 h0, .int .i64 h1, .int .i64 h2] 59).below hb1).below hB2).alloc (.cells #[.int .i64 (fl b s f ln d3 3).b, .int .i64 (fl b s f ln d3 3).s, .slice sa (fl b s f ln d3 3).slots.length sc, .slice fa (fl b s f ln d3 3).free.length fc, .int .i64 (fl b s f ln d3 3).live] 32)
    have q0 := hbk.cell 0
    have q1 := hbk.cell 1
    have q2 := hbk.cell 2
    rw [show (w.alloc (.cells #[.int .i64 b, .int .i64 s] 23)).heap.size = w.heap.size + 1 by simp] at q0 q1 q2
    unfold arV
    clear hl1 hd1 hA2 hb1 hc1 hf1 hbk hB2 hA00
    simp only [List.append_nil] at hA3
    have hA4 := hA3.ofParts
    clear hA3
    have hln := fl_len b s f ln d3 3
    generalize fl b s f ln d3 3 = A at *
    have HLN := Lib.hid hln
    clear hln
    go_upto_region 4 with fail
    generalize w2.alloc (.cells #[.int .i64 A.b, .int .i64 A.s, .slice sa A.slots.length sc, .slice fa A.free.length fc, .int .i64 A.live] 32) = W at hA4 q0 q1 q2 ⊢
    generalize w2.heap.size = g at hA4 ⊢
    simp at q0 q1 q2
    have hlt := World.block_lt_of_cell? _ _ q0
    go_wp2_with (at_builtin; refine wpList_append_glN [_] hA4 [h0, h1, h2, 0, -1] (by simp) rfl _ _ 5 rfl rfl rfl (by rw [hs_len]; simp; omega) ?_; intro gv' W4 hA5; have HGL := Lib.hid (gs_len b s ln h0 h1 h2 hn); generalize hs b s ln ++ [h0, h1, h2, 0, -1] = gs at *; have hO : Own _ _ _ _ _ _ := hA5.tail.head; obtain ⟨ga, gc, rfl⟩ := own_shape hO; clear hO)
    clear hA4 q0 q1 q2 hlt
    have hgl : gs.length ≤ 105 := HGL.out
    go_loopw [41] (fun iv wr => AtR w g ln (.slice ga gs.length gc) gs iv wr) (fun iv _ => gs.length - (intOf iv).toNat)
    case atStart => exact ⟨0, _, _, _, Nat.zero_le _, rfl, HLN.out, hA5⟩
    case round =>
      clear hA5 HLN
      obtain ⟨i, A, sv, fv, hi1, rfl, hAn, hA⟩ := hrel
      have HAN := Lib.hid hAn
      clear hAn
      by_cases hlt : i < gs.length
      · have hO : Own _ _ _ _ _ _ := hA.tail.head
        obtain ⟨gg, gc', he, hgc⟩ := own_some hO (by omega)
        simp only [Value.slice.injEq] at he
        obtain ⟨rfl, _, rfl⟩ := he
        have hcell := hO.cellAt i (by omega)
        rw [hcells_get gs hlt] at hcell
        have hr := HR.out _ (List.getElem_mem hlt)
        have hgl2 : gg < wr.heap.size := own_lt hO rfl
        clear hO
        generalize gs[i] = h at *
        go_wp2_with fail
        cases hk : A.look h with
        | none =>
          refine (at_none hA.head h hr.1 hr.2 (by have := HAN.out; omega) hk).mono ?_
          rintro e w3 ⟨rfl, hb3⟩
          have hA3 := hA.still hb3
          have hcell3 := (hb3.cell (p := ⟨gg, i, none⟩) hgl2).trans hcell
          have hgl3 : gg < w3.heap.size := Nat.lt_of_lt_of_le hgl2 hb3.size
          clear hA hcell hb3 hgl2
          have HK := Lib.hid hk
          clear hk
          go_wp2_with fail
          refine (get_none hA3.head h hr.1 hr.2 (by have := HAN.out; omega) HK.out).mono ?_
          rintro e w4 ⟨rfl, hb4⟩
          have hA4 := hA3.still hb4
          clear hA3 hcell3 hb4 hgl3
          go_wp2_with fail
          go_roundw
          case rel => exact ⟨i + 1, A, sv, fv, by omega, by go_num, HAN.out, hA4⟩
          case measure => simp [intOf]; omega
        | some k =>
          obtain ⟨_, hkl, v, hv⟩ := look_some hk
          have hh : AtI _ _ _ _ _ := hA.head
          obtain ⟨sg, cap, rfl, hc⟩ := own_some hh.slots (by omega)
          refine (at_some hh h hr.1 hr.2 (by have := HAN.out; omega) hk).mono ?_
          rintro e w3 ⟨rfl, hb3⟩
          have hA3 := hA.still hb3
          have hcell3 := (hb3.cell (p := ⟨gg, i, none⟩) hgl2).trans hcell
          have hgl3 : gg < w3.heap.size := Nat.lt_of_lt_of_le hgl2 hb3.size
          clear hA hcell hb3 hgl2 hh
          have HK := Lib.hid hk
          have HV := Lib.hid hv
          clear hk hv
          go_wp2_with fail
          refine (get_some hA3.head h hr.1 hr.2 (by have := HAN.out; omega) HK.out HV.out).mono ?_
          rintro e w4 ⟨rfl, hb4⟩
          have hA4 := hA3.still hb4
          have hcell4 := (hb4.cell (p := ⟨gg, i, none⟩) hgl3).trans hcell3
          have hgl4 : gg < w4.heap.size := Nat.lt_of_lt_of_le hgl3 hb4.size
          clear hA3 hcell3 hb4 hgl3
          have hh : AtI _ _ _ _ _ := hA4.head
          have hne : gg ≠ sg := by
            have := (List.pairwise_cons.1 hA4.apart).1 _ List.mem_cons_self sg (.inr (.inl rfl))
            simpa [gl, sl, Value.ownBlock] using this
          have u1 := hh.slots.cellAt (k * 2 + 1) (by omega)
          rw [(scells_used _ _ _ _ HV.out).2] at u1
          have u2 := hh.slots.frozenAt (k * 2 + 1)
          have hA5 := hA4.step [] (o' := arI g (A.put k (1000 + (i : Int))) (.slice (some ⟨sg, 0, none⟩) A.slots.length cap) fv) (hh.stored k (1000 + (i : Int)) v HV.out) ((Chg.refl _ _).setCell ⟨sg, k * 2 + 1, none⟩ (fun _ => .inr (.inl rfl)) (.int .i64 (1000 + (i : Int)))) (fun _ h => .inl h)
          have hP := look_put HK.out (1000 + (i : Int))
          have HP := Lib.hid hP
          clear hh hP hA4
          go_wp2_with fail
          refine (get_some hA5.head h hr.1 hr.2 (by have := HAN.out; simp [Ar.put]; omega) HP.out.1 HP.out.2).mono ?_
          rintro e w6 ⟨rfl, hb6⟩
          have hA6 := hA5.still hb6
          clear hA5 hcell4 hb6 hgl4 u1 u2
          go_wp2_with fail
          go_roundw
          case rel => exact ⟨i + 1, A.put k (1000 + (i : Int)), _, fv, by omega, by go_num, by simpa [Ar.put] using HAN.out, hA6⟩
          case measure => simp [intOf]; omega
      · go_wp2_with fail
        go_ret
        exact ⟨rfl, hA.below⟩
  · go_enter Try.func6, Try.ntmps6
    go_wp2_with fail
    refine (awake_any _).mono ?_
    rintro e w1 ⟨rfl, hb1⟩
    go_wp2_with fail
    refine (awake_any _).mono ?_
    rintro e w2 ⟨rfl, hb2⟩
    go_wp2_with fail
    go_ret
    exact ⟨rfl, ((hA00.still hb1).still hb2).below⟩
end Go.Proofs.Ytabmmampgmcibaa.W
