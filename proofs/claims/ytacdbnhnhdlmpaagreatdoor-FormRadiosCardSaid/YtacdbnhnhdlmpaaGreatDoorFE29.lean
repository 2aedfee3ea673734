/- Texts joined: EdQ EdI Close. -/
import Derived.Test.YtacdbnhnhdlmpaaGreatDoorFE28
import Derived.BigQuiet
import Derived.Test.YtacdbnhnhdlmpaaGreatDoorFE27
import Derived.Test.YtacdbnhnhdlmpaaGreatDoorRows
import Derived.WalkKit
import Derived.ProofKit
import Derived.OpenShut
import Derived.Lib.SmallJoins
set_option maxRecDepth 100000
set_option maxHeartbeats 40000000
set_option linter.unusedVariables false
set_option linter.unusedSimpArgs false
section
namespace Go.Proofs.YtacdbnhnhdlmpaaGreatDoor.W
open Go.RowKit
section
variable {B : Nat} {w0 w : World} {Q : Nat} {ar : Bool} {l : List Ob} {E : RE} {L : List (Value × List (Mo × Mo))}
set_option maxRecDepth 100000 in
set_option maxHeartbeats 16000000 in
theorem rreplace_eq (h : EdAt B w0 Q ar l E L w) (a : Nat) (y : List UInt8) (hy0 : y ≠ []) (hb : a ≤ nL E.now.val) (hvd : Vd E.now.val) (hy : Vd y) (hn : E.now.val.length ≤ 100000) (hyn : y.length ≤ 100000) (hul : E.undo.length ≤ 100) :
    Calls Tryz.prog 122 #[.pointer (some ⟨Q, 0, none⟩), .int .i64 (a : Int), .int .i64 (a : Int), .string ⟨y.toArray⟩] w fun e w' => e = .returned (.tuple #[]) ∧ ∃ L', L ⊆ L' ∧ EdAt B w0 Q ar l (E.rep a a y) L' w' := by
  have hne : ¬ (a = a ∧ y = []) := fun e => hy0 e.2
  have hab : a ≤ a := Nat.le_refl _
  have HP := Lib.hid (rpoints_any E.now.val hvd w (by omega))
  have HLe := Lib.hid (fun wx => rlen_any y hy wx (by omega))
  have q1 := h.blk.2.1
  have HE := Lib.hid h
  have hnn := nL_le E.now.val
  have hny := nL_le y
  have e1 : y.isEmpty = false := by
    cases y with
    | nil => exact absurd rfl hy0
    | cons x y => rfl
  clear h
  go_enter Tryz.func122, Tryz.ntmps122
  go_upto_region 3 with (first
    | (refine HP.out.mono ?_
       rintro e w1 ⟨vl, rfl, ho, hb1⟩
       obtain ⟨pa, pc, rfl⟩ := own_shapeB ho
       have HO := Lib.hid ho
       have HB1 := Lib.hid hb1
       clear ho hb1)
    | (refine (HLe.out _).mono ?_
       rintro e w2 ⟨rfl, hb2⟩))
  have hown := HO.out
  obtain ⟨P, hP⟩ : ∃ P, ptsL E.now.val = P := ⟨_, rfl⟩
  have hpl : P.length = nL E.now.val := by rw [← hP]; rfl
  have e0 : (P.take a).flatten = cutL E.now.val 0 a := by rw [← hP]; unfold cutL joinL; simp
  have e9 : (P.drop a).flatten = cutL E.now.val a (nL E.now.val) := by
    rw [← hP]
    unfold cutL joinL
    rw [List.take_of_length_le (show (ptsL E.now.val).length ≤ nL E.now.val from Nat.le_refl _)]
  have hPf : E.now.val = P.flatten := by rw [← hP]; exact (pts_flat _).symm
  have hc1 := cut_len E.now.val 0 a
  have hc2 := cut_len E.now.val a (nL E.now.val)
  rw [hP] at hown
  have hE2 := HE.out.still (bthen HB1.out hb2)
  have HE2 := Lib.hid hE2
  have hown2 := own_keepB hown hb2
  have HOw := Lib.hid hown2
  rw [hP, hpl]
  clear HO HE HP HB1 hown hown2 hE2 hb2 q1 hP
  go_cut [8, 10] (fun u8 v wx => ∃ gm, v = .pointer (some ⟨gm, 0, none⟩) ∧ Below w2.heap.size w2 wx ∧ Blk wx gm [strV (cutL E.now.val 0 a ++ (y ++ cutL E.now.val a (nL E.now.val))), .int .i64 ((a + nL y : Nat) : Int), .int .i64 ((a + nL y : Nat) : Int)] 48 ∧ w2.heap.size ≤ gm)
  case first =>
    have hfp : P.flatten.length ≤ 100000 := by rw [← hPf]; exact hn
    obtain ⟨pf, hpf⟩ : ∃ pf : Nat → Nat → List UInt8, ∀ k m, pf k m = ((P.drop k).take m).flatten := ⟨_, fun _ _ => rfl⟩
    have f0 : pf 0 a = cutL E.now.val 0 a := by rw [hpf, List.drop_zero]; exact e0
    have fb : pf a (nL E.now.val - a) = cutL E.now.val a (nL E.now.val) := by rw [hpf, List.take_of_length_le (by rw [List.length_drop]; omega)]; exact e9
    have f00 : ∀ k, pf k 0 = [] := fun k => by rw [hpf]; rfl
    rw [← f0] at hc1
    rw [← fb] at hc2
    have HF := Lib.hid (And.intro f0 (And.intro fb f00))
    have hs1 : ¬ 9223372036854775807 < (pf 0 a).length + y.length := by omega
    have hs2 : ¬ 9223372036854775807 < (pf 0 a).length + y.length + (pf a (nL E.now.val - a)).length := by omega
    have hs3 : ¬ 9223372036854775807 < (pf 0 a).length + y.length + (pf 0 0).length := by rw [f00]; simp only [List.length_nil]; omega
    have hw2 := HOw.out.2
    have ha0 : (0 : Int) ≤ (a : Int) + (nL y : Int) := by omega
    rcases hw2 with ⟨hpa, hn0⟩ | ⟨g, cap, cur, hpa, _, _, hncap, hcap, _⟩
    · simp only [Value.slice.injEq] at hpa
      obtain ⟨rfl, hn9, hpc⟩ := hpa
      have hac : a ≤ pc := by omega
      have hbl : a ≤ pc := by omega
      have hncap : nL E.now.val ≤ pc := by omega
      have HPn := Lib.hid (fun (m c : Nat) wx (hm : m ≤ nL E.now.val) => show Calls Tryz.prog 149 #[.slice none m c] wx fun e w' => e = .returned (.string ⟨(pf 0 m).toArray⟩) ∧ wx = w' from by
        obtain rfl : m = 0 := by omega
        rw [f00]
        exact part_any none [] c wx (fun h => by simp at h) (by simp) (by simp))
      have HZ := Lib.hid (show pf 0 (nL E.now.val - a) = pf a (nL E.now.val - a) from by
        rw [show nL E.now.val - a = 0 by omega, f00, f00])
      have hs4 : ¬ 9223372036854775807 < (pf 0 a).length + y.length + (pf 0 (nL E.now.val - a)).length := by
        rw [show nL E.now.val - a = 0 by omega]; exact hs3
      clear HOw hpf HE2 e0 e9 f0 fb f00 hc1 hc2 hfp hPf hn9 hpc hn0
      go_region_law (go_simp; go_at_call 149; (refine (HPn.out _ _ _ (by omega)).mono ?_; rintro e wy ⟨rfl, rfl⟩))
      all_goals
        go_wp2_with fail
        go_meet
        refine ⟨_, rfl, (below_alloc (Below.refl _ _) _).drew, ?_, Nat.le_refl _⟩
        rw [← HF.out.1, ← HF.out.2.1, ← HZ.out]
        exact box_is w2 _ _ _ _ _
    · simp only [Value.slice.injEq] at hpa
      obtain ⟨rfl, _, rfl⟩ := hpa
      rw [hpl] at hncap
      have hac : a ≤ pc := by omega
      have hst : ∀ (j : Nat) (x : List UInt8), P[j]? = some x → w2.cell? ⟨g, j, none⟩ = some (.string ⟨x.toArray⟩) := fun j x hj => by
        rw [HOw.out.cellAt j (by have := (List.getElem?_eq_some_iff.1 hj).1; omega)]
        simp [sC, strV, hj]
      have HPa := Lib.hid (fun (k m c : Nat) wx (hb : Below w2.heap.size w2 wx) (hkm : k + m ≤ nL E.now.val) => show Calls Tryz.prog 149 #[.slice (some ⟨g, k, none⟩) m c] wx fun e w' => e = .returned (.string ⟨(pf k m).toArray⟩) ∧ wx = w' from by
        have hl : ((P.drop k).take m).length = m := by rw [List.length_take, List.length_drop]; omega
        have := part_any (some ⟨g, k, none⟩) ((P.drop k).take m) c wx (fun _ => ⟨g, k, rfl, fun j x hj => by
          have hjm : j < m := by have := (List.getElem?_eq_some_iff.1 hj).1; omega
          rw [List.getElem?_take_of_lt hjm, List.getElem?_drop] at hj
          exact cell_keep hb (hst _ x hj)⟩) (by omega) (by
            have h1 := flat_len (P.drop k) m
            have h2 := congrArg (fun x : List (List UInt8) => x.flatten.length) (List.take_append_drop k P)
            simp only [List.flatten_append, List.length_append] at h2
            omega)
        rw [hl] at this
        rw [hpf]
        exact this)
      have hbl : a ≤ pc := by omega
      have HPc := Lib.hid (fun (A : Option Addr) (m c : Nat) (x : List UInt8) wx (hbz : Below w2.heap.size w2 wx) (h : (A = some ⟨g, 0, none⟩ ∧ m = a ∧ x = pf 0 a) ∨ (A = (if pc = a then some ⟨g, 0, none⟩ else some ⟨g, a, none⟩) ∧ m = nL E.now.val - a ∧ x = pf a (nL E.now.val - a))) => show Calls Tryz.prog 149 #[.slice A m c] wx fun e w' => e = .returned (.string ⟨x.toArray⟩) ∧ wx = w' from by
        rcases h with ⟨rfl, rfl, rfl⟩ | ⟨rfl, rfl, rfl⟩
        · exact HPa.out _ _ _ _ hbz (by omega)
        · by_cases e : pc = a
          · rw [if_pos e]
            have h0 : nL E.now.val - a = 0 := by omega
            have := HPa.out 0 0 c wx hbz (by omega)
            rw [h0, HF.out.2.2]
            rwa [HF.out.2.2] at this
          · rw [if_neg e]
            exact HPa.out _ _ _ _ hbz (by omega))
      clear hst HOw hpf HE2 e0 e9 f0 fb f00 hc1 hc2 hfp hPf HPa
      go_region_law (go_simp; go_at_call 149; (refine (HPc.out _ _ _ _ _ (by first | exact (Below.refl _ _).drew | exact (below_alloc (Below.refl _ _) _).drew) (by first | exact .inl ⟨rfl, rfl, rfl⟩ | exact .inr ⟨rfl, rfl, rfl⟩)).mono ?_; rintro e wy ⟨rfl, rfl⟩))
      all_goals (go_wp2_with fail)
      all_goals
        go_meet
        refine ⟨_, rfl, (below_alloc (Below.refl _ _) _).drew, ?_, Nat.le_refl _⟩
        rw [← HF.out.1, ← HF.out.2.1]
        exact box_is w2 _ _ _ _ _
  case rest =>
    obtain ⟨gm, rfl, hbw, hbm, hgm⟩ := hcut
    have hE3 := HE2.out.still hbw
    obtain ⟨uv, rv, hA2, hmu, hmr⟩ := HE2.out
    have hA3 := hA2.new (o := bk gm [strV (cutL E.now.val 0 a ++ (y ++ cutL E.now.val a (nL E.now.val))), .int .i64 ((a + nL y : Nat) : Int), .int .i64 ((a + nL y : Nat) : Int)] 48) hbm hbw (fun k hk => by rw [← (show gm = k from hk.symm)]; exact hgm)
    have hz : ∃ M : Mo, M = ⟨cutL E.now.val 0 a ++ (y ++ cutL E.now.val a (nL E.now.val)), a + nL y, a + nL y⟩ := ⟨_, rfl⟩
    obtain ⟨M, hM⟩ := hz
    have hA4 : All B w0 (bk gm (moC M) 48 :: bk Q (edC ar E uv rv) 51 :: co L :: l) wc := by rw [hM]; exact hA3
    have hHE : E.rep a a y = ⟨M, keepE (E.undo ++ [(E.now, M)]), []⟩ := by
      unfold RE.rep
      rw [if_neg (show ¬ (a = a ∧ y = []) from fun e => hy0 e.2), hM]
    have HHE := Lib.hid hHE
    have hRu : Rd wc uv E.undo := (show ∀ p ∈ L, Rd wc p.1 p.2 from hA4.tail.tail.head) _ hmu
    obtain ⟨ua, uc, rfl⟩ := hRu.shape
    have hbx : Blk wc gm (moC M) 48 := hA4.head
    have hbq : Blk wc Q (edC ar E (.slice ua E.undo.length uc) rv) 51 := hA4.tail.head
    have HA4 := Lib.hid hA4
    have HM := Lib.hid (And.intro hmu hmr)
    have HR := Lib.hid hRu
    have hQW := hbq.lt
    have hgW := hbx.lt
    have hgq : Q ≠ gm := by
      have := hA2.head.lt
      omega
    have q1 := hbq.cell 1
    have q2 := hbq.cell 2
    have q3 := hbq.cell 3
    have q4 := hbq.cell 4
    have b0 := hbx.cell 0
    have b1 := hbx.cell 1
    have b2 := hbx.cell 2
    simp only [edC, moC, strV, List.getElem?_cons_succ, List.getElem?_cons_zero] at q1 q2 q3 q4 b0 b1 b2
    have HBQ := Lib.hid hbq
    have HS0 := Lib.hid (show SR Q gm E.now M wc from ⟨q1, q2, q3, b0, b1, b2⟩)
    have eq1 : ∀ o, (wc.alloc o).cell? ⟨Q, 4, none⟩ = some (.slice ua E.undo.length uc) := fun o => (World.cell?_alloc_lt _ _ _ hQW).trans q4
    have eq2 : ∀ o o', ((wc.alloc o).alloc o').cell? ⟨Q, 4, none⟩ = some (.slice ua E.undo.length uc) := fun o o' => (World.cell?_alloc_lt _ _ _ (by simp; omega)).trans (eq1 o)
    clear hA2 hA3 hA4 hbx hbq hRu hmu hmr hE3 hM hHE hbw hbm hgm e0 e9 hPf hc1 hc2 HE2 HOw HLe hb hne hnn hny hn hyn
    generalize E.now = m0 at *
    go_upto_region 4 with fail
    go_cut [] (fun wx => ∃ va vc w6, wx = w6.setCell ⟨Q, 4, none⟩ (.slice va (E.undo.length + 1) vc) ∧ Below wc.heap.size wc w6 ∧ w6.ownsRow wc.heap.size 179 6 (.slice va (E.undo.length + 1) vc) (E.undo.length + 1) (rows chC (E.undo ++ [(m0, M)])))
    case first =>
      have hS1 : ∀ k Y wx, RpC wc E.undo (m0, M) k Y wx → RpS Q gm (.slice ua E.undo.length uc) m0 M wx := fun k Y wx hC => by
        have hb := hC.below
        exact ⟨cell_keep hb q4, HS0.out.below hb⟩
      have y0 : ∀ x1 : InS (RpS Q gm (.slice ua E.undo.length uc) m0 M), x1.w.cell? ⟨Q, 4, none⟩ = some (.slice ua E.undo.length uc) := fun x1 => x1.h.1
      have y1 : ∀ x1 : InS (RpS Q gm (.slice ua E.undo.length uc) m0 M), x1.w.cell? ⟨Q, 1, none⟩ = some (.string ⟨m0.val.toArray⟩) := fun x1 => x1.h.2.1
      have y2 : ∀ x1 : InS (RpS Q gm (.slice ua E.undo.length uc) m0 M), x1.w.cell? ⟨Q, 2, none⟩ = some (.int .i64 (m0.st : Int)) := fun x1 => x1.h.2.2.1
      have y3 : ∀ x1 : InS (RpS Q gm (.slice ua E.undo.length uc) m0 M), x1.w.cell? ⟨Q, 3, none⟩ = some (.int .i64 (m0.en : Int)) := fun x1 => x1.h.2.2.2.1
      have y4 : ∀ x1 : InS (RpS Q gm (.slice ua E.undo.length uc) m0 M), x1.w.cell? ⟨gm, 0, none⟩ = some (.string ⟨M.val.toArray⟩) := fun x1 => x1.h.2.2.2.2.1
      have y5 : ∀ x1 : InS (RpS Q gm (.slice ua E.undo.length uc) m0 M), x1.w.cell? ⟨gm, 1, none⟩ = some (.int .i64 (M.st : Int)) := fun x1 => x1.h.2.2.2.2.2.1
      have y6 : ∀ x1 : InS (RpS Q gm (.slice ua E.undo.length uc) m0 M), x1.w.cell? ⟨gm, 2, none⟩ = some (.int .i64 (M.en : Int)) := fun x1 => x1.h.2.2.2.2.2.2
      have hne : Nonempty (InS (RpS Q gm (.slice ua E.undo.length uc) m0 M)) := ⟨⟨wc, q4, HS0.out⟩⟩
      clear q1 q2 q3 q4 b0 b1 b2 eq1 eq2
      refine RZ.reg_m ⟨RpS Q gm (.slice ua E.undo.length uc) m0 M, RpC wc E.undo (m0, M), RpV E.undo, fun _ g => .slice (some ⟨g, 0, none⟩) 1 1, fun _ => chC (m0, M), fun _ => 179⟩ 17 (by kernel_rfl) (by kernel_rfl) hS1 RpC.alloc RpC.perm ⟨(Below.refl _ _).drew, fun o ho => by cases ho⟩ ?_
      simp only [List.take_succ_cons, List.take_zero, List.drop_succ_cons, List.drop_zero]
      repeat (first
        | (refine RZ.m_held (by rfl) (by rfl) (fun K hK => ?_); go_big_quiet_step (fail); refine wpQuiet_nil ?_; refine hK.out _ ?_; clear hK K)
        | (refine RZ.m_skip (by rfl) ?_; simp only [Act.put, List.setIfInBounds_toArray, List.set_cons_zero, List.set_cons_succ]))
      refine RZ.m_app (by rfl) (by rfl) ⟨_, 0, rfl⟩ ?_ ?_
      · intro Y wx hx
        exact ⟨.slice (some ⟨wx.heap.size, 0, none⟩) 0 0, wx.alloc (.cells #[] 179), by go_simp, ⟨_, rfl⟩, ⟨below_alloc hx.1 _, fun o ho => o.loc wx _ (hx.2 o ho) (fun a hb => ((Below.refl _ _).alloc (Nat.le_refl _) _).block a (o.here wx (hx.2 o ho) a hb))⟩, _, rfl⟩
      rintro v ⟨g0, rfl⟩
      simp only [Act.put, List.setIfInBounds_toArray, List.set_cons_zero, List.set_cons_succ]
      repeat (first
        | (refine RZ.m_held (by rfl) (by rfl) (fun K hK => ?_); go_big_quiet_step (fail); refine wpQuiet_nil ?_; refine hK.out _ ?_; clear hK K)
        | (refine RZ.m_skip (by rfl) ?_; simp only [Act.put, List.setIfInBounds_toArray, List.set_cons_zero, List.set_cons_succ]))
      refine RZ.m_app (by rfl) (by rfl) ⟨_, none, 0, rfl⟩ ?_ ?_
      · intro Y wx hx
        obtain ⟨v', w', hr, hb, hn⟩ := run_append_new (P := Tryz.prog) (ty := 49) etC wx ⟨g0, 0, none⟩ (HR.out.below hx.1.1) (by omega) (by omega)
        exact ⟨v', w', exec_append rfl rfl rfl hr, hn.shape, ⟨bthen hx.1.1 hb, fun o ho => o.loc wx _ (hx.1.2 o ho) (fun a hb' => hb.block a (o.here wx (hx.1.2 o ho) a hb'))⟩, hn.imp id (fun h => own_low h hx.1.1.size)⟩
      rintro v ⟨na, nc, rfl⟩
      simp only [Act.put, List.setIfInBounds_toArray, List.set_cons_zero, List.set_cons_succ]
      repeat (first
        | (refine RZ.m_held (by rfl) (by rfl) (fun K hK => ?_); go_big_quiet_step (fail); refine wpQuiet_nil ?_; refine hK.out _ ?_; clear hK K)
        | (refine RZ.m_skip (by rfl) ?_; simp only [Act.put, List.setIfInBounds_toArray, List.set_cons_zero, List.set_cons_succ]))
      refine RZ.m_made (fun g => .slice (some ⟨g, 0, none⟩) 1 1) (chC (m0, M)) 179 rfl rfl rfl (by rfl) (by rfl) (fun w => by go_simp; rfl) ?_
      intro gy
      simp only [Act.put, List.setIfInBounds_toArray, List.set_cons_zero, List.set_cons_succ]
      refine RZ.m_appX (by rfl) (by rfl) ⟨_, none, 0, rfl⟩ ?_ ?_
      · intro Y wx hY hx
        have hbk : Blk wx gy (chC (m0, M)) 179 := hx.1.2 (bk gy (chC (m0, M)) 179) (hY _ (List.mem_cons_self ..))
        obtain ⟨v', w', hr, hb, hn⟩ := run_append_more (P := Tryz.prog) (ty := 49) etC hx.1.1.size hx.2 (x := (m0, M)) (gy := gy) (fun j u hj => (hbk.cell j).trans hj) (by omega) (by omega)
        exact ⟨v', w', exec_append rfl rfl rfl hr, own_shapeB hn, hx.1.1.trans hb, hn⟩
      rintro v ⟨va, vc, rfl⟩
      simp only [Act.put, List.setIfInBounds_toArray, List.set_cons_zero, List.set_cons_succ]
      repeat (first
        | (refine RZ.m_held (by rfl) (by rfl) (fun K hK => ?_); go_big_quiet_step (fail); refine wpQuiet_nil ?_; refine hK.out _ ?_; clear hK K)
        | (refine RZ.m_skip (by rfl) ?_; simp only [Act.put, List.setIfInBounds_toArray, List.set_cons_zero, List.set_cons_succ]))
      refine RZ.m_nil ?_
      intro w6 hC6
      obtain ⟨hb6, hr6⟩ := hC6
      have HB6 := Lib.hid hb6
      have HR6 := Lib.hid hr6
      have s5 := (HBQ.out.below hb6).cell 4
      have s6 := (HBQ.out.below hb6).free 4
      simp only [edC, List.getElem?_cons_succ, List.getElem?_cons_zero] at s5
      clear hb6 hr6
      go_wp2_with fail
      go_meet
      exact ⟨va, vc, _, rfl, HB6.out, HR6.out⟩
    case rest =>
      obtain ⟨va, vc, w6, rfl, hb6, hr6⟩ := hcut
      have hlp : (E.undo ++ [(m0, M)]).length = E.undo.length + 1 := by simp
      obtain ⟨hr7, hr8⟩ := Rd.own (cs := E.undo ++ [(m0, M)]) (by rw [hlp]; exact hr6)
      obtain ⟨g7, o7, c7, e7, hc7, hm7, _⟩ := hr7.full (by simp)
      rw [hlp] at e7 hc7
      simp only [Value.slice.injEq] at e7
      obtain ⟨rfl, _, rfl⟩ := e7
      have hA6 := All.coNew [bk gm (moC M) 48, bk Q (edC ar E (.slice ua E.undo.length uc) rv) 51] HA4.out hb6 hr7 hr8
      have hA7 := All.setBk [bk gm (moC M) 48] hA6 4 (.slice (some ⟨g7, o7, none⟩) (E.undo.length + 1) vc)
      have hA8 : All B w0 (bk gm (moC M) 48 :: bk Q (edC ar E (.slice (some ⟨g7, o7, none⟩) (E.undo.length + 1) vc) rv) 51 :: co ((.slice (some ⟨g7, o7, none⟩) (E.undo.length + 1) vc, E.undo ++ [(m0, M)]) :: L) :: l) (w6.setCell ⟨Q, 4, none⟩ (.slice (some ⟨g7, o7, none⟩) (E.undo.length + 1) vc)) := hA7
      clear hA6 hA7 hr6 hr7 hr8 hb6 eq1 eq2 q1 q2 q3 q4 b0 b1 b2 HR HA4 HBQ HS0 hQW hgW hvd hpl
      generalize w6.setCell ⟨Q, 4, none⟩ (.slice (some ⟨g7, o7, none⟩) (E.undo.length + 1) vc) = w7 at *
      have hbq : Blk w7 Q (edC ar E (.slice (some ⟨g7, o7, none⟩) (E.undo.length + 1) vc) rv) 51 := hA8.tail.head
      have hr9 : Rd w7 (.slice (some ⟨g7, o7, none⟩) (E.undo.length + 1) vc) (E.undo ++ [(m0, M)]) := (show ∀ p ∈ ((Value.slice (some ⟨g7, o7, none⟩) (E.undo.length + 1) vc, E.undo ++ [(m0, M)]) :: L), Rd w7 p.1 p.2 from hA8.tail.tail.head) _ (List.mem_cons_self ..)
      have HR9 := Lib.hid hr9
      have HA8 := Lib.hid hA8
      have q4 := hbq.cell 4
      have f4 := hbq.free 4
      simp only [edC, List.getElem?_cons_succ, List.getElem?_cons_zero] at q4
      clear hbq hr9 hA8
      go_upto_if 64 with fail
      go_cut [] (fun wx => ∃ uv' L', L ⊆ L' ∧ All B w0 (bk gm (moC M) 48 :: bk Q (edC ar E uv' rv) 51 :: co L' :: l) wx ∧ (uv', keepE (E.undo ++ [(m0, M)])) ∈ L')
      case first =>
        by_cases hfull : E.undo.length = 100
        · have hk : keepE (E.undo ++ [(m0, M)]) = (E.undo ++ [(m0, M)]).drop 1 := by unfold keepE; rw [hlp, hfull]
          obtain ⟨c0, cs0, hcs⟩ : ∃ c0 cs0, E.undo ++ [(m0, M)] = c0 :: cs0 := by
            cases hu : E.undo with
            | nil => rw [hu] at hfull; simp at hfull
            | cons x xs => exact ⟨x, xs ++ [(m0, M)], rfl⟩
          have hrs : Rd w7 (.slice (some ⟨g7, o7 + 1 * 6, none⟩) (E.undo.length + 1 - 1) (vc - 1)) cs0 := Rd.shift (x := c0) (by rw [← hcs]; exact HR9.out)
          have hA9 := All.coAdd [bk gm (moC M) 48, bk Q (edC ar E (.slice (some ⟨g7, o7, none⟩) (E.undo.length + 1) vc) rv) 51] HA8.out hrs (fun k hk => ⟨_, List.mem_cons_self .., rdF_up (a := ⟨g7, o7, none⟩) (n := E.undo.length + 1 - 1) (c := vc - 1) (by cases hz : E.undo.length + 1 - 1 with
            | zero => rw [hz] at hk; exact hk.elim
            | succ n => rw [hz] at hk; exact hk) (by omega)⟩)
          have hA10 := All.setBk [bk gm (moC M) 48] hA9 4 (.slice (some ⟨g7, o7 + 1 * 6, none⟩) (E.undo.length + 1 - 1) (vc - 1))
          have HA10 := Lib.hid hA10
          rw [hcs, List.drop_succ_cons, List.drop_zero] at hk
          rw [hfull] at HA10 q4 hc7
          have hv1 : ¬ vc = 1 := by omega
          have hv0 : 1 ≤ vc := by omega
          have HCS := Lib.hid (And.intro hk hcs)
          clear hA9 hA10 hrs hk hcs HR9 HA8
          go_wp2_with fail
          all_goals first
            | omega
            | (go_meet
               refine ⟨_, _, fun p hp => List.mem_cons_of_mem _ (List.mem_cons_of_mem _ hp), HA10.out, ?_⟩
               rw [HCS.out.2, HCS.out.1]
               exact List.mem_cons_self ..)
        · have hk : keepE (E.undo ++ [(m0, M)]) = E.undo ++ [(m0, M)] := by
            unfold keepE
            rw [hlp, show E.undo.length + 1 - 100 = 0 by omega, List.drop_zero]
          go_wp2_with fail
          all_goals first
            | omega
            | (go_meet
               refine ⟨_, _, fun p hp => List.mem_cons_of_mem _ hp, HA8.out, ?_⟩
               rw [hk]
               exact List.mem_cons_self ..)
      case rest =>
        obtain ⟨uv', L', hsub, hA, hmem⟩ := hcut
        have hA1 := All.coAdd [bk gm (moC M) 48, bk Q (edC ar E uv' rv) 51] hA (Rd.nil _) (fun k hk => hk.elim)
        have HA1 := Lib.hid hA1
        have hbx : Blk wc gm (moC M) 48 := hA.head
        have hbq : Blk wc Q (edC ar E uv' rv) 51 := hA.tail.head
        have b0 := hbx.cell 0
        have b1 := hbx.cell 1
        have b2 := hbx.cell 2
        simp only [moC, strV, List.getElem?_cons_succ, List.getElem?_cons_zero] at b0 b1 b2
        have q1 := hbq.cell 1
        have q2 := hbq.cell 2
        have q3 := hbq.cell 3
        have q5 := hbq.cell 5
        have f1 := hbq.free 1
        have f2 := hbq.free 2
        have f3 := hbq.free 3
        have f5 := hbq.free 5
        simp only [edC, strV, List.getElem?_cons_succ, List.getElem?_cons_zero] at q1 q2 q3 q5
        have HX := Lib.hid (And.intro hsub hmem)
        clear hA1 hA hbx hbq hsub hmem q4 f4 HA8 HR9
        go_wp2_with fail
        go_end0
        have h1 := All.setBk [bk gm (moC M) 48] HA1.out 5 (.slice none 0 0)
        have h2 := All.setBk [bk gm (moC M) 48] h1 1 (strV M.val)
        have h3 := All.setBk [bk gm (moC M) 48] h2 2 (.int .i64 (M.st : Int))
        have h4 := All.setBk [bk gm (moC M) 48] h3 3 (.int .i64 (M.en : Int))
        refine ⟨rfl, (.slice none 0 0, []) :: L', fun p hp => List.mem_cons_of_mem _ (HX.out.1 hp), uv', .slice none 0 0, ?_, ?_, ?_⟩
        · rw [HHE.out]
          exact h4.tail
        · rw [HHE.out]
          exact List.mem_cons_of_mem _ HX.out.2
        · rw [HHE.out]
          exact List.mem_cons_self ..
theorem rreplace_any (h : EdAt B w0 Q ar l E L w) (a b : Nat) (y : List UInt8) (hab : a ≤ b) (hb : b ≤ nL E.now.val) (hvd : Vd E.now.val) (hy : Vd y) (hn : E.now.val.length ≤ 100000) (hyn : y.length ≤ 100000) (hul : E.undo.length ≤ 100) :
    Calls Tryz.prog 122 #[.pointer (some ⟨Q, 0, none⟩), .int .i64 (a : Int), .int .i64 (b : Int), .string ⟨y.toArray⟩] w fun e w' => e = .returned (.tuple #[]) ∧ ∃ L', L ⊆ L' ∧ EdAt B w0 Q ar l (E.rep a b y) L' w' := by
  by_cases e : a = b
  · subst e
    by_cases h0 : y = []
    · subst h0
      refine (rreplace_none h a).mono ?_
      rintro e w' ⟨rfl, rfl⟩
      refine ⟨rfl, L, fun _ h => h, ?_⟩
      have : E.rep a a [] = E := by simp [RE.rep]
      rw [this]
      exact h
    · exact rreplace_eq h a y h0 hb hvd hy hn hyn hul
  · exact rreplace_ne h a b y e hab hb hvd hy hn hyn hul
end
def IrS (Q : Nat) (ar : Bool) (m : Mo) (w' : World) : Prop := w'.cell? ⟨Q, 0, none⟩ = some (.bool ar) ∧ w'.cell? ⟨Q, 2, none⟩ = some (.int .i64 (m.st : Int)) ∧ w'.cell? ⟨Q, 3, none⟩ = some (.int .i64 (m.en : Int))
def IrC (W : World) (k : List Value) (Y : List Ob) (w' : World) : Prop := Below W.heap.size W w' ∧ ∀ o ∈ Y, o.P w'
theorem IrC.alloc {W : World} (k : List Value) (Y : List Ob) (w' : World) (cs : List Value) (ty : TypeId) (h : IrC W k Y w') : IrC W k (bk w'.heap.size cs ty :: Y) (w'.alloc (.cells cs.toArray ty)) := by
  have hb : Below w'.heap.size w' (w'.alloc (.cells cs.toArray ty)) := (Below.refl _ _).alloc (Nat.le_refl _) _
  refine ⟨bthen h.1 hb, fun o ho => ?_⟩
  rcases List.mem_cons.1 ho with rfl | ho
  · exact Blk.new w' cs ty
  · exact o.loc w' _ (h.2 o ho) (fun b hb' => hb.block b (o.here w' (h.2 o ho) b hb'))
theorem IrC.perm {W : World} (k : List Value) (Y Z : List Ob) (w' : World) (hp : Y.Perm Z) (h : IrC W k Y w') : IrC W k Z w' := ⟨h.1, fun o ho => h.2 o (hp.mem_iff.2 ho)⟩
theorem IrC.below {W : World} {k k' : List Value} {Y : List Ob} {w' w2 : World} (h : IrC W k Y w') (hb : Below w'.heap.size w' w2) : IrC W k' Y w2 :=
  ⟨bthen h.1 hb, fun o ho => o.loc w' _ (h.2 o ho) (fun b hb' => hb.block b (o.here w' (h.2 o ho) b hb'))⟩
section
variable {B : Nat} {w0 w : World} {Q : Nat} {ar : Bool} {l : List Ob} {E : RE} {L : List (Value × List (Mo × Mo))}
set_option maxRecDepth 100000 in
set_option maxHeartbeats 16000000 in
theorem rinsert_any (h : EdAt B w0 Q ar l E L w) (x : List UInt8) (hx : x.length ≤ 10000) (hab : E.now.st ≤ E.now.en) (hb : E.now.en ≤ nL E.now.val) (hvd : Vd E.now.val) (hn : E.now.val.length ≤ 100000) (hul : E.undo.length ≤ 100) :
    Calls Tryz.prog 67 #[.pointer (some ⟨Q, 0, none⟩), .string ⟨x.toArray⟩] w fun e w' => e = .returned (.tuple #[]) ∧ ∃ L', L ⊆ L' ∧ EdAt B w0 Q ar l (E.ins (cleanL ar x)) L' w' := by
  have hcl := clean_len ar x
  have hcv := clean_vd ar x
  have HCl := Lib.hid (fun wx => rclean_any x ar wx hx)
  generalize cleanL ar x = y at *
  have HRp := Lib.hid (fun wx (hbw : Below w.heap.size w wx) => rreplace_any (h.still hbw) E.now.st E.now.en y hab hb hvd hcv hn (by omega) hul)
  obtain ⟨q0, q1, q2, q3⟩ := h.blk
  have HE := Lib.hid (fun wx (hb : Below w.heap.size w wx) => (h.still hb).blk)
  clear h
  go_enter Tryz.func67, Tryz.ntmps67
  go_upto_region 0 with fail
  have hS1 : ∀ k Y wx, IrC w k Y wx → IrS Q ar E.now wx := fun k Y wx hC => ⟨cell_keep hC.1 q0, cell_keep hC.1 q2, cell_keep hC.1 q3⟩
  have y0 : ∀ x1 : InS (IrS Q ar E.now), x1.w.cell? ⟨Q, 0, none⟩ = some (.bool ar) := fun x1 => x1.h.1
  have y2 : ∀ x1 : InS (IrS Q ar E.now), x1.w.cell? ⟨Q, 2, none⟩ = some (.int .i64 (E.now.st : Int)) := fun x1 => x1.h.2.1
  have y3 : ∀ x1 : InS (IrS Q ar E.now), x1.w.cell? ⟨Q, 3, none⟩ = some (.int .i64 (E.now.en : Int)) := fun x1 => x1.h.2.2
  have hne : Nonempty (InS (IrS Q ar E.now)) := ⟨⟨w, q0, q2, q3⟩⟩
  clear q0 q1 q2 q3 HE hab hb hvd hn hul hcl hcv
  refine RZ.reg_m ⟨IrS Q ar E.now, IrC w, fun _ v => v = .string ⟨y.toArray⟩, fun _ g => .pointer none, fun _ => [], fun _ => 51⟩ 17 (by kernel_rfl) (by kernel_rfl) hS1 IrC.alloc IrC.perm ⟨(Below.refl _ _).drew, fun o ho => by cases ho⟩ ?_
  simp only [List.take_succ_cons, List.take_zero, List.drop_succ_cons, List.drop_zero]
  repeat (first
    | (refine RZ.m_held (by rfl) (by rfl) (fun K hK => ?_); go_big_quiet_step (fail); refine wpQuiet_nil ?_; refine hK.out _ ?_; clear hK K)
    | (refine RZ.m_skip (by rfl) ?_; simp only [Act.put, List.setIfInBounds_toArray, List.set_cons_zero, List.set_cons_succ]))
  refine RZ.m_call (by rfl) (by rfl) (fun w => by go_simp; exact ⟨rfl, rfl⟩) ⟨_, rfl⟩ (fun X wx hx => ?_) (fun v hv => ?_)
  · refine (HCl.out wx).mono ?_
    rintro e w1 ⟨rfl, hb1⟩
    exact ⟨_, rfl, rfl, IrC.below (k := []) (k' := []) hx hb1⟩
  obtain rfl := hv
  simp only [Act.put, List.setIfInBounds_toArray, List.set_cons_zero, List.set_cons_succ]
  refine RZ.m_nil ?_
  intro w6 hC6
  have HB6 := Lib.hid hC6.1
  clear hC6 y0 y2 y3 hne hS1
  go_wp2_with (go_at_call 122; refine (HRp.out _ HB6.out).mono ?_; rintro e w2 ⟨rfl, L2, hs2, hE2⟩; have HX := Lib.hid (And.intro hs2 hE2); clear hs2 hE2)
  go_end0
  exact ⟨rfl, _, HX.out.1, HX.out.2⟩
set_option maxRecDepth 100000 in
set_option maxHeartbeats 16000000 in
theorem rdelete_any (h : EdAt B w0 Q ar l E L w) (fw : Bool) (hab : E.now.st ≤ E.now.en) (hb : E.now.en ≤ nL E.now.val) (hvd : Vd E.now.val) (hn : E.now.val.length ≤ 100000) (hul : E.undo.length ≤ 100) :
    Calls Tryz.prog 69 #[.pointer (some ⟨Q, 0, none⟩), .bool fw] w fun e w' => e = .returned (.tuple #[]) ∧ ∃ L', L ⊆ L' ∧ EdAt B w0 Q ar l (E.del fw) L' w' := by
  have hnn := nL_le E.now.val
  have HRp := Lib.hid (fun (a b : Nat) (hab' : a ≤ b) (hb' : b ≤ nL E.now.val) wx (hbw : Below w.heap.size w wx) => rreplace_any (h.still hbw) a b [] hab' hb' hvd Vd.nil hn (by simp) hul)
  have HLe := Lib.hid (fun wx => rlen_any E.now.val hvd wx (by omega))
  obtain ⟨q0, q1, q2, q3⟩ := h.blk
  clear h
  unfold RE.del
  obtain ⟨a, ha⟩ : ∃ a, E.now.st = a := ⟨_, rfl⟩
  obtain ⟨b, hbb⟩ : ∃ b, E.now.en = b := ⟨_, rfl⟩
  rw [ha] at q2 hab
  rw [hbb] at q3 hab hb
  rw [ha, hbb]
  clear ha hbb
  by_cases he : a = b
  · subst he
    have e1 : ((a : Int) == (a : Int)) = true := by simp
    cases fw with
    | true =>
      rw [if_pos ⟨rfl, rfl⟩]
      have HR := Lib.hid (HRp.out a (min (a + 1) (nL E.now.val)) (by omega) (by omega))
      have hmin : min ((a : Int) + 1) (nL E.now.val : Int) = ((min (a + 1) (nL E.now.val) : Nat) : Int) := by omega
      generalize min (a + 1) (nL E.now.val) = m at *
      clear HRp hab
      go_enter Tryz.func69, Tryz.ntmps69
      go_upto_region 0 with fail
      go_quiet (fail)
      go_wp2_with fail
      refine (HLe.out _).mono ?_
      rintro e w1 ⟨rfl, hb1⟩
      go_wp2_with fail
      refine (HR.out _ (bthen (Below.drewN (Below.refl _ _) _) hb1)).mono ?_
      rintro e w2 ⟨rfl, L2, hs2, hE2⟩
      have HX := Lib.hid (And.intro hs2 hE2)
      clear hs2 hE2
      go_wp2_with fail
      go_end0
      exact ⟨rfl, L2, HX.out.1, HX.out.2⟩
    | false =>
      rw [if_neg (by simp), if_pos rfl]
      have HR := Lib.hid (HRp.out (a - 1) a (by omega) (by omega))
      have hmax : max ((a : Int) - 1) 0 = ((a - 1 : Nat) : Int) := by omega
      generalize a - 1 = m at *
      clear HRp hab
      go_enter Tryz.func69, Tryz.ntmps69
      go_upto_region 0 with fail
      go_quiet (fail)
      go_wp2_with fail
      refine (HR.out _ (Below.drewN (Below.refl _ _) _)).mono ?_
      rintro e w2 ⟨rfl, L2, hs2, hE2⟩
      have HX := Lib.hid (And.intro hs2 hE2)
      clear hs2 hE2
      go_wp2_with fail
      go_end0
      exact ⟨rfl, L2, HX.out.1, HX.out.2⟩
  · have e1 : ((a : Int) == (b : Int)) = false := by simp; omega
    rw [if_neg (fun q => he q.1), if_neg he]
    have HR := Lib.hid (HRp.out a b hab hb)
    clear HRp he hab
    go_enter Tryz.func69, Tryz.ntmps69
    go_upto_region 0 with fail
    go_quiet (fail)
    go_wp2_with fail
    refine (HR.out _ (Below.drewN (Below.refl _ _) _)).mono ?_
    rintro e w2 ⟨rfl, L2, hs2, hE2⟩
    have HX := Lib.hid (And.intro hs2 hE2)
    clear hs2 hE2
    go_wp2_with fail
    go_end0
    exact ⟨rfl, L2, HX.out.1, HX.out.2⟩
end
end Go.Proofs.YtacdbnhnhdlmpaaGreatDoor.W
end
section
namespace Go.Proofs.YtacdbnhnhdlmpaaGreatDoor.W
open Go.ChangeShapes Go.WideShapes Go.ChangeAt Go.RowKit Go.Joins
theorem own : ownKnob Tryz.prog.godebug = none := by kernel_rfl
theorem laidOut : laidOutB Tryz.prog = true := by kernel_rfl
theorem trodAll_stays {H : Type} {enc : TypeId × Value → H} {P : Program} (hl : laidOutB P = true) {W W' : World} (hb : Below W.heap.size W W') {sp : Nat → Bool} :
    ∀ {ts : List TypeId} {vs : List Value} {ds : List (DataW H)} {ps : List MemPlace}, (∀ t ∈ ts, P.readableRec t = true ∧ t < P.types.size) →
      DataW.TrodAll enc P W 0 (fun _ => true) true ts vs ds ps → (∀ p ∈ ps, p.block < W.heap.size) → (∀ p ∈ ps, sp p.block = true) → DataW.TrodAll enc P W' 0 sp true ts vs ds ps
  | [], [], [], _, _, h, _, _ => h
  | [], _ :: _, _, _, _, h, _, _ => h.elim
  | [], [], _ :: _, _, _, h, _, _ => h.elim
  | _ :: _, [], _, _, _, h, _, _ => h.elim
  | _ :: _, _ :: _, [], _, _, h, _, _ => h.elim
  | t :: ts, v :: vs, d :: ds, ps, hT, ⟨p, q, h1, h2, e⟩, hlt, hs => by
    subst e
    obtain ⟨hr, hrow⟩ := hT t (by simp)
    exact ⟨p, q, WideElems.Trod_stays hl hr hrow h1 (fun x hx => hb.same (hlt x (by simp [hx]))) (fun x hx => hs x (by simp [hx])),
      trodAll_stays hl hb (fun t ht => hT t (by simp [ht])) h2 (fun x hx => hlt x (by simp [hx])) (fun x hx => hs x (by simp [hx])), rfl⟩
section
variable {H : Type} {enc : TypeId × Value → H} {P : Program}
theorem post_of_below {f : Func} {s : ChangeSpec} {apart fresh handsOn again : Bool} {W W' : World} {args : Array Value} {v : Value} {ds gs : List (DataW H)} {before pa pv : List MemPlace}
    (hW : DataW.Whole enc P f.params.toList s.vars apart W args.toList ds gs before)
    (hres : ∀ (b : Nat) (sp : Nat → Bool) (hd : Bool), DataW.TrodAll enc P W' b sp hd f.resultTypes.toList (v.resultList f.resultTypes.size) (s.fn H (ds ++ gs)).results [])
    (hargs : ∀ sp : Nat → Bool, (∀ p ∈ before, sp p.block = true) → DataW.TrodAll enc P W' 0 sp true f.params.toList args.toList (s.fn H (ds ++ gs)).args pa)
    (hvars : ∀ sp : Nat → Bool, (∀ p ∈ before, sp p.block = true) → DataW.TrodVars enc P W' sp s.vars (s.fn H (ds ++ gs)).vars pv)
    (hps : before = pa ++ pv) (hb : Below W.heap.size W W')
    (hok : ∀ (j : Nat) (t : TypeId) (r : Value), f.resultTypes[j]? = some t → (v.resultList f.resultTypes.size)[j]? = some r → Value.okWide P W' .any 0 t r) :
    s.post enc P f apart fresh handsOn again W args v W' := by
  have hlt : ∀ p ∈ before, p.block < W.heap.size := fun p hp => hW.lt p hp
  have hold : ∀ p ∈ before, (fun b => decide (b < W.heap.size)) p.block = true := fun p hp => by simpa using hlt p hp
  refine ⟨ds, gs, before, [], pa, pv, hW, hres _ _ _, hargs _ hold, hvars _ hold, World.keptBut_mono (fun p hp => ⟨hp, ?_⟩) (hb.frame (· ∈ before)), fun _ => ?_⟩
  · rw [hps, List.mem_append] at hp
    exact Or.inr hp
  · obtain ⟨_, _, _, _, _, hz, hn⟩ := hW
    refine ⟨hok, _, _, ([] ++ pa) ++ pv, ⟨[] ++ pa, pv, trodAll_append (hargs _ (fun _ _ => rfl)) (hres _ _ _), hvars _ (fun _ _ => rfl), rfl, ?_, ?_⟩, ?_⟩
    · intro b off hp
      have hin : MemPlace.cell b off ∈ before := by rw [hps]; simpa using hp
      rw [hb.frozen (hlt _ hin)]
      exact hz b off hin
    · intro ha
      have := hn ha
      rw [hps] at this
      simpa using this
    · intro p hp _
      rw [hps]
      simpa using hp
theorem law_post {f : Func} {s : ChangeSpec} {fresh handsOn again : Bool} {W W' : World} {args : Array Value} {ds gs : List (DataW H)} {before : List MemPlace} {tb : TypeId}
    (hl : laidOutB P = true) (hT : ∀ t ∈ f.params.toList, P.readableRec t = true ∧ t < P.types.size)
    (hr : f.resultTypes = #[tb]) (htb : P.underlying tb = some .bool) (hv : s.vars = [])
    (hfn : (s.fn H (ds ++ gs)).results = [.lit (.bool true)]) (hfa : (s.fn H (ds ++ gs)).args = ds) (hfv : (s.fn H (ds ++ gs)).vars = [])
    (hW : DataW.Whole enc P f.params.toList s.vars false W args.toList ds gs before) (hb : Below W.heap.size W W') :
    s.post enc P f false fresh handsOn again W args (.bool true) W' := by
  have hlt : ∀ p ∈ before, p.block < W.heap.size := fun p hp => hW.lt p hp
  have hW' := hW
  obtain ⟨p, q, hA, hV, rfl, _, _⟩ := hW
  rw [hv] at hV
  obtain ⟨rfl, rfl⟩ := trodVars_none hV
  simp only [List.append_nil] at *
  refine post_of_below (pa := p) (pv := []) hW' (fun _ _ _ => ?_) (fun sp hs => ?_) (fun sp _ => ?_) (by simp) hb (ok_one hr rfl (okWide_bool_mk htb _))
  · rw [hr]
    simp only [List.append_nil]
    rw [hfn]
    exact trodAll_cons_mk (shut_bool htb _) trodAll_mk0
  · simp only [List.append_nil]
    rw [hfa]
    exact trodAll_stays hl hb hT hA hlt hs
  · simp only [List.append_nil]
    rw [hv, hfv]
    rfl
end
end Go.Proofs.YtacdbnhnhdlmpaaGreatDoor.W
end
