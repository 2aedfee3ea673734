/- Texts joined: LinkM Cnt Dp DpL. -/
import Derived.Test.YtfdofkokiaapoaaDoorGa6
import Derived.Test.YtfdofkokiaapoaaDoorGa3
section
/- The contract of link with a child before which the node is put. -/
namespace Go.Proofs.YtfdofkokiaapoaaDoor.W
open Go.RowKit
set_option linter.unusedVariables false
set_option linter.unusedSimpArgs false

set_option maxRecDepth 100000 in
set_option maxHeartbeats 8000000 in
theorem link_mid {B R g cap : Nat} {S : Tr} {fv : Value} {w : World} {K : Nat → List Nat} {d d' : Nat → Nat} (h : TAt B R S (.slice (some ⟨g, 0, none⟩) S.slots.length cap) fv w) (hL : Lk S K d) (p c j b : Nat) (np nc nb : Nd) (hp : S.at p = some np) (hc : S.at c = some nc) (hb : S.at b = some nb) (hj : (K p)[j]? = some b) (hpc : p ≠ c)
    (hdet : ∀ q, c ∉ K q) (hL' : ∀ S', Linked S S' (K p) p j c → Lk S' (linkK K p j c) d') :
    Calls Tryd.prog 56 #[.pointer (some ⟨R, 0, none⟩), .int .i64 (S.hd p), .int .i64 (S.hd c), .int .i64 (S.hd b)] w fun e w' => ∃ S', Linked S S' (K p) p j c ∧ e = .returned (.agg (recC 1 (S.hd p) (S.hd c) nb.prev (S.hd b) j [] [] false 0 0).toArray) ∧
      TAt B R S' (.slice (some ⟨g, 0, none⟩) S'.slots.length cap) fv w' ∧ Chg (fun k => k = g) w w' := by
  have hbm := List.mem_of_getElem? hj
  have hbc : b ≠ c := fun e => hdet p (e ▸ hbm)
  have hbp : b ≠ p := fun e => hL.self (e ▸ hbm : p ∈ K p)
  have hpr : nb.prev = hO S (pv (K p) j) := (hL.kid p j b nb hj hb).2.1
  have hjl : j < (K p).length := (List.getElem?_eq_some_iff.1 hj).1
  have hb0 : ¬ S.hd b = 0 := by have := (hd_ok hL hb).2; omega
  have hb1 : (S.hd b == 0) = false := by simpa using hb0
  have HPr := Lib.hid hpr
  clear hpr
  have HP := Lib.hid (fun wx (hb : Below w.heap.size w wx) => at_some (h.below hb) (S.hd p) (hd_ok hL hp).1 (hd_ix hL hp))
  have HC := Lib.hid (fun wx (hb : Below w.heap.size w wx) => at_some (h.below hb) (S.hd c) (hd_ok hL hc).1 (hd_ix hL hc))
  have HT := Lib.hid h
  have hbl : Below w.heap.size w (w.alloc (.cells #[.int .i64 0, .int .i64 0, .int .i64 0, .int .i64 0, .int .i64 0, .int .i64 0, .string ⟨#[]⟩, .string ⟨#[]⟩, .bool false, .int .i64 0, .int .i64 0] 90)) := (Below.refl _ _).alloc (Nat.le_refl _) _
  clear h
  go_enter Tryd.func56, Tryd.ntmps56
  go_wp2_with fail
  refine (HP.out _ hbl).mono ?_
  rintro e w2 ⟨rfl, hb2⟩
  have hB2 := hbl.trans (hb2.mono hbl.size)
  go_wp2_with fail
  refine (HC.out _ hB2).mono ?_
  rintro e w3 ⟨rfl, hb3⟩
  have hB3 := hB2.trans (hb3.mono hB2.size)
  have hT3 := HT.out.below hB3
  have c4 := nd_cell hT3 hc 4 (by omega)
  have c8 := nd_cell hT3 hc 8 (by omega)
  simp only [ndC, List.getElem?_cons_succ, List.getElem?_cons_zero] at c4 c8
  have z4 := nd_free hT3 (c * 10 + 1 + 4)
  have z8 := nd_free hT3 (c * 10 + 1 + 8)
  have HT3 := Lib.hid hT3
  clear hT3
  go_upto_region 4 with fail
  have hT4 := (HT3.out.setF (n' := { nc with parent := S.hd p }) hc 4 (.int .i64 (S.hd p)) (by omega) rfl rfl rfl).setF (i := c) (n := { nc with parent := S.hd p }) (n' := { nc with parent := S.hd p, next := S.hd b }) (by rw [at_put hc, if_pos rfl]) 8 (.int .i64 (S.hd b)) (by omega) rfl rfl rfl
  have hch4 : Chg (fun k => k = g) w3 ((w3.setCell ⟨g, c * 10 + 1 + 4, none⟩ (.int .i64 (S.hd p))).setCell ⟨g, c * 10 + 1 + 8, none⟩ (.int .i64 (S.hd b))) :=
    ((Chg.refl (fun k => k = g) w3).setCell ⟨g, c * 10 + 1 + 4, none⟩ (fun _ => (rfl : g = g)) _).setCell ⟨g, c * 10 + 1 + 8, none⟩ (fun _ => (rfl : g = g)) _
  obtain ⟨S4, hS4⟩ : ∃ S4, S4 = (S.put c { nc with parent := S.hd p }).put c { nc with parent := S.hd p, next := S.hd b } := ⟨_, rfl⟩
  rw [← hS4] at hT4
  have hat4 : ∀ x, x ≠ c → S4.at x = S.at x := fun x xc => by rw [hS4, at_put (by rw [at_put hc, if_pos rfl]), if_neg xc, at_put hc, if_neg xc]
  have hc4 : S4.at c = some { nc with parent := S.hd p, next := S.hd b } := by rw [hS4, at_put (by rw [at_put hc, if_pos rfl]), if_pos rfl]
  have hb4 : S4.at b = some nb := (hat4 b hbc).trans hb
  have hhd4 : ∀ x, S4.hd x = S.hd x := fun x => by rw [hS4]; rfl
  have z7 := nd_free hT4 (c * 10 + 1 + 7)
  have HT4 := Lib.hid hT4
  have HC4 := Lib.hid hch4
  clear hT4 hch4 HT3 c4 c8 z4 z8
  generalize (w3.setCell ⟨g, c * 10 + 1 + 4, none⟩ (.int .i64 (S.hd p))).setCell ⟨g, c * 10 + 1 + 8, none⟩ (.int .i64 (S.hd b)) = w4 at *
  have HQ4 := Lib.hid (at_some HT4.out (S.hd b) (hd_ok hL hb).1 (by rw [← hhd4]; exact ix_hd HT4.out.few (at_slot hb4)))
  go_wp2_with fail
  refine HQ4.out.mono ?_
  rintro e w4' ⟨rfl, hb4'⟩
  have hT4' := HT4.out.below hb4'
  have l7 := nd_cell hT4' hb4 7 (by omega)
  have l7c := nd_cell hT4' hc4 7 (by omega)
  simp only [ndC, List.getElem?_cons_succ, List.getElem?_cons_zero] at l7 l7c
  have z7' := nd_free hT4' (c * 10 + 1 + 7)
  have HT4' := Lib.hid hT4'
  clear hT4' z7
  go_upto_region 5 with fail
  have hT5 := HT4'.out.setF (n' := { nc with parent := S.hd p, next := S.hd b, prev := nb.prev }) hc4 7 (.int .i64 nb.prev) (by omega) rfl rfl rfl
  have hch5 : Chg (fun k => k = g) w4 (w4'.setCell ⟨g, c * 10 + 1 + 7, none⟩ (.int .i64 nb.prev)) := (Chg.of_below (F := fun k => k = g) hb4').setCell ⟨g, c * 10 + 1 + 7, none⟩ (fun _ => (rfl : g = g)) _
  obtain ⟨S5, hS5⟩ : ∃ S5, S5 = S4.put c { nc with parent := S.hd p, next := S.hd b, prev := nb.prev } := ⟨_, rfl⟩
  rw [← hS5] at hT5
  have hat5 : ∀ x, x ≠ c → S5.at x = S.at x := fun x xc => by rw [hS5, at_put hc4, if_neg xc]; exact hat4 x xc
  have hc5 : S5.at c = some { nc with parent := S.hd p, next := S.hd b, prev := nb.prev } := by rw [hS5, at_put hc4, if_pos rfl]
  have hb5 : S5.at b = some nb := (hat5 b hbc).trans hb
  have hhd5 : ∀ x, S5.hd x = S.hd x := fun x => by rw [hS5]; exact hhd4 x
  have HT5 := Lib.hid hT5
  have HC5 := Lib.hid hch5
  clear hT5 hch5 HT4 HT4' l7 l7c z7' HQ4
  generalize w4'.setCell ⟨g, c * 10 + 1 + 7, none⟩ (.int .i64 nb.prev) = w5 at *
  have HQ5 := Lib.hid (at_some HT5.out (S.hd b) (hd_ok hL hb).1 (by rw [← hhd5]; exact ix_hd HT5.out.few (at_slot hb5)))
  go_wp2_with fail
  refine HQ5.out.mono ?_
  rintro e w5' ⟨rfl, hb5'⟩
  have hT5' := HT5.out.below hb5'
  have m7 := nd_cell hT5' hb5 7 (by omega)
  simp only [ndC, List.getElem?_cons_succ, List.getElem?_cons_zero] at m7
  have y7 := nd_free hT5' (b * 10 + 1 + 7)
  have HT5' := Lib.hid hT5'
  clear hT5'
  go_upto_region 8 with fail
  have hT6 := HT5'.out.setF (n' := { nb with prev := S.hd c }) hb5 7 (.int .i64 (S.hd c)) (by omega) rfl rfl rfl
  have hch6 : Chg (fun k => k = g) w5 (w5'.setCell ⟨g, b * 10 + 1 + 7, none⟩ (.int .i64 (S.hd c))) := (Chg.of_below (F := fun k => k = g) hb5').setCell ⟨g, b * 10 + 1 + 7, none⟩ (fun _ => (rfl : g = g)) _
  obtain ⟨S6, hS6⟩ : ∃ S6, S6 = S5.put b { nb with prev := S.hd c } := ⟨_, rfl⟩
  rw [← hS6] at hT6
  have hat6 : ∀ x, x ≠ c → x ≠ b → S6.at x = S.at x := fun x xc xb => by rw [hS6, at_put hb5, if_neg xb]; exact hat5 x xc
  have hp6 : S6.at p = some np := (hat6 p hpc (fun e => hbp e.symm)).trans hp
  have hb6 : S6.at b = some { nb with prev := S.hd c } := by rw [hS6, at_put hb5, if_pos rfl]
  have hc6 : S6.at c = some { nc with parent := S.hd p, next := S.hd b, prev := nb.prev } := by rw [hS6, at_put hb5, if_neg (fun e => hbc e.symm)]; exact hc5
  have hhd6 : ∀ x, S6.hd x = S.hd x := fun x => by rw [hS6]; exact hhd5 x
  have hsm6 : S6.slots.length = S.slots.length ∧ S6.b = S.b ∧ S6.s = S.s ∧ S6.free = S.free ∧ S6.root = S.root := by
    rw [hS6, hS5, hS4]; exact ⟨by rw [put_len, put_len, put_len, put_len], rfl, rfl, rfl, rfl⟩
  have o7 := nd_cell hT6 hc6 7 (by omega)
  have o5 := nd_cell hT6 hp6 5 (by omega)
  simp only [ndC, List.getElem?_cons_succ, List.getElem?_cons_zero] at o7 o5
  have x5 := nd_free hT6 (p * 10 + 1 + 5)
  have HT6 := Lib.hid hT6
  have HC6 := Lib.hid hch6
  clear hT6 hch6 HT5 HT5' HQ5 m7 y7
  generalize w5'.setCell ⟨g, b * 10 + 1 + 7, none⟩ (.int .i64 (S.hd c)) = w6 at *
  have hlast := HPr.out
  cases hq : pv (K p) j
  case' none =>
    rw [hq, show hO S none = 0 from rfl] at hlast
    rw [hlast] at o7
    have hj0 : j = 0 := by
      unfold pv at hq
      split at hq
      · assumption
      · rename_i e
        rw [List.getElem?_eq_none_iff] at hq
        omega
    go_upto_region 11 with fail
    have hT7 := HT6.out.setF (n' := { np with first := S.hd c }) hp6 5 (.int .i64 (S.hd c)) (by omega) rfl rfl rfl
    have hch7 : Chg (fun k => k = g) w6 (w6.setCell ⟨g, p * 10 + 1 + 5, none⟩ (.int .i64 (S.hd c))) := (Chg.refl (fun k => k = g) w6).setCell ⟨g, p * 10 + 1 + 5, none⟩ (fun _ => (rfl : g = g)) _
    obtain ⟨S7, hS7⟩ : ∃ S7, S7 = S6.put p { np with first := S.hd c } := ⟨_, rfl⟩
    rw [← hS7] at hT7
    have hlk : Linked S S7 (K p) p j c := by
      refine ⟨fun x => ?_, by rw [hS7, put_len]; exact hsm6.1, by rw [hS7]; exact hsm6.2.1, by rw [hS7]; exact hsm6.2.2.1, by rw [hS7]; exact hsm6.2.2.2.1, by rw [hS7]; exact hsm6.2.2.2.2⟩
      rw [hS7, at_put hp6]
      by_cases xp : x = p
      · subst xp
        rw [if_pos rfl, hp]
        have e2 : ¬ (K x)[j]? = some x := fun e => hL.self (List.mem_of_getElem? e)
        simp only [Option.map_some, linkN, if_neg hpc, hq, if_neg e2, reduceCtorEq, if_false, true_and, if_pos hj0, if_neg (Nat.ne_of_lt hjl)]
      · rw [if_neg xp]
        by_cases xb : x = b
        · subst xb
          rw [hb6, hb]
          simp only [Option.map_some, linkN, if_neg hbc, hq, if_pos hj, reduceCtorEq, if_false, xp, false_and]
        · by_cases xc : x = c
          · subst xc
            rw [hc6, hc]
            simp only [Option.map_some, linkN, if_pos, hq, hj, xp, false_and, if_false, hO, hlast]
          · rw [hat6 x xc xb]
            cases S.at x with
            | none => rfl
            | some n =>
              have e3 : ¬ (K p)[j]? = some x := fun e => xb (by rw [hj] at e; cases e; rfl)
              simp only [Option.map_some, linkN, if_neg xc, hq, if_neg e3, reduceCtorEq, if_false, xp, false_and]
    have hl7 := hL' S7 hlk
    have hc7 : S7.at c = some { nc with parent := S.hd p, next := S.hd b, prev := nb.prev } := by rw [hS7, at_put hp6, if_neg (fun e => hpc e.symm)]; exact hc6
    have HT7 := Lib.hid hT7
    have HC7 := Lib.hid hch7
    clear hT7 hch7 HT6 o7 o5 x5 hj0
    generalize w6.setCell ⟨g, p * 10 + 1 + 5, none⟩ (.int .i64 (S.hd c)) = w7 at *
  case' some q =>
    rw [hq, show hO S (some q) = S.hd q from rfl] at hlast
    rw [hlast] at o7
    have hj0 : j ≠ 0 := fun e => by rw [e] at hq; simp [pv] at hq
    have hq' := hq
    unfold pv at hq'
    rw [if_neg hj0] at hq'
    have hqm : q ∈ K p := List.mem_of_getElem? hq'
    have hqc : q ≠ c := fun e => hdet p (e ▸ hqm)
    have hqp : q ≠ p := fun e => hL.self (e ▸ hqm : p ∈ K p)
    have hqb : q ≠ b := fun e => by have := hL.inj (e ▸ hq') hj; omega
    obtain ⟨nq, hnq⟩ := Option.isSome_iff_exists.1 (hL.kin p q hqm).2
    have hq6 : S6.at q = some nq := (hat6 q hqc hqb).trans hnq
    have hne : ¬ S.hd q = 0 := by have := (hd_ok hL hnq).2; omega
    have hne2 : (S.hd q == 0) = false := by simpa using hne
    have HQ := Lib.hid (at_some HT6.out (S.hd q) (hd_ok hL hnq).1 (by rw [← hhd6]; exact ix_hd HT6.out.few (at_slot hq6)))
    go_wp2_with fail
    refine HQ.out.mono ?_
    rintro e w6' ⟨rfl, hb6'⟩
    have hT6' := HT6.out.below hb6'
    have r8 := nd_cell hT6' hq6 8 (by omega)
    simp only [ndC, List.getElem?_cons_succ, List.getElem?_cons_zero] at r8
    have y8 := nd_free hT6' (q * 10 + 1 + 8)
    have HT6' := Lib.hid hT6'
    clear hT6'
    go_upto_region 11 with fail
    have hT7 := HT6'.out.setF (n' := { nq with next := S.hd c }) hq6 8 (.int .i64 (S.hd c)) (by omega) rfl rfl rfl
    have hch7 : Chg (fun k => k = g) w6 (w6'.setCell ⟨g, q * 10 + 1 + 8, none⟩ (.int .i64 (S.hd c))) := (Chg.of_below (F := fun k => k = g) hb6').setCell ⟨g, q * 10 + 1 + 8, none⟩ (fun _ => (rfl : g = g)) _
    obtain ⟨S7, hS7⟩ : ∃ S7, S7 = S6.put q { nq with next := S.hd c } := ⟨_, rfl⟩
    rw [← hS7] at hT7
    have hlk : Linked S S7 (K p) p j c := by
      refine ⟨fun x => ?_, by rw [hS7, put_len]; exact hsm6.1, by rw [hS7]; exact hsm6.2.1, by rw [hS7]; exact hsm6.2.2.1, by rw [hS7]; exact hsm6.2.2.2.1, by rw [hS7]; exact hsm6.2.2.2.2⟩
      rw [hS7, at_put hq6]
      by_cases xq : x = q
      · subst xq
        rw [if_pos rfl, hnq]
        have e3 : ¬ (K p)[j]? = some x := fun e => hqb (by rw [hj] at e; cases e; rfl)
        simp only [Option.map_some, linkN, if_neg hqc, hq, if_neg e3, if_pos, hqp, false_and, if_false]
      · have xq2 : ¬ q = x := fun e => xq e.symm
        rw [if_neg xq]
        have e4 : ¬ (some q : Option Nat) = some x := fun e => xq2 (Option.some.inj e)
        by_cases xp : x = p
        · subst xp
          rw [hp6, hp]
          have e2 : ¬ (K x)[j]? = some x := fun e => hL.self (List.mem_of_getElem? e)
          simp only [Option.map_some, linkN, if_neg hpc, hq, if_neg e2, if_neg e4, true_and, if_neg hj0, if_neg (Nat.ne_of_lt hjl)]
        · by_cases xb : x = b
          · subst xb
            rw [hb6, hb]
            simp only [Option.map_some, linkN, if_neg hbc, hq, if_pos hj, if_neg e4, xp, false_and, if_false]
          · by_cases xc : x = c
            · subst xc
              rw [hc6, hc]
              simp only [Option.map_some, linkN, if_pos, hq, hj, xp, false_and, if_false, hO, hlast]
            · rw [hat6 x xc xb]
              cases S.at x with
              | none => rfl
              | some n =>
                have e3 : ¬ (K p)[j]? = some x := fun e => xb (by rw [hj] at e; cases e; rfl)
                simp only [Option.map_some, linkN, if_neg xc, hq, if_neg e3, if_neg e4, xp, false_and, if_false]
    have hl7 := hL' S7 hlk
    have hc7 : S7.at c = some { nc with parent := S.hd p, next := S.hd b, prev := nb.prev } := by rw [hS7, at_put hq6, if_neg (fun e => hqc e.symm)]; exact hc6
    have HT7 := Lib.hid hT7
    have HC7 := Lib.hid hch7
    clear hT7 hch7 HT6 HT6' o7 o5 x5 r8 y8 HQ hne hne2 hq' hqm hqc hqp hqb hj0
    generalize w6'.setCell ⟨g, q * 10 + 1 + 8, none⟩ (.int .i64 (S.hd c)) = w7 at *
  all_goals
    clear hq hlast
    clear hb0 hb1
    have HR := Lib.hid (show Blk w7 w.heap.size (recC 0 0 0 0 0 0 [] [] false 0 0) 90 from by
      have g0 : ¬ w.heap.size = g := by have := (HT.out.slots.lt g rfl).2; omega
      have k0 := Blk.new w (recC 0 0 0 0 0 0 [] [] false 0 0) 90
      exact ((((((k0.below hb2).below hb3).chg HC4.out g0).chg HC5.out g0).chg HC6.out g0).chg HC7.out g0))
    have HI := Lib.hid (fun wx (hb : Below w7.heap.size w7 wx) => index_kid (HT7.out.below hb) hl7 p j c (by unfold linkK; rw [if_pos rfl, ins_at _ _ _ _ (Nat.le_of_lt hjl), if_neg (by omega), if_pos rfl]))
    rw [hlk.hd] at HI
    have c7 := nd_cell HT7.out hc7 7 (by omega)
    simp only [ndC, List.getElem?_cons_succ, List.getElem?_cons_zero] at c7
    have g7 := (HT7.out.slots.lt g rfl).2
    have hne := stb_ne w7
    have x7 : ∀ x : InS (StB w7), x.w.cell? ⟨g, c * 10 + 1 + 7, none⟩ = some (.int .i64 nb.prev) := fun x => ((bcell x.h).1 _ _ g7).trans c7
    refine reg_b (.int .i64 (j : Int) |> fun v _ => v) 11 (by kernel_rfl) (by kernel_rfl) ?_
    simp only [List.take_succ_cons, List.take_zero, List.drop_succ_cons, List.drop_zero]
    repeat (first
      | (refine m_held (by rfl) (by rfl) (fun K hK => ?_); go_big_quiet_step (fail); refine wpQuiet_nil ?_; refine hK.out _ ?_; clear hK K)
      | (refine m_skip (by rfl) ?_; simp only [Act.put, List.setIfInBounds_toArray, List.set_cons_zero, List.set_cons_succ]))
    refine m_call (.int .i64 (j : Int)) rfl (by rfl) (by rfl) (fun w => by go_simp; exact ⟨rfl, rfl⟩) ?_ ?_
    · intro X w2 h2
      refine (HI.out _ h2).mono ?_
      rintro e w3 ⟨rfl, hb⟩
      exact ⟨rfl, RowKit.Below.trans h2 (hb.mono h2.size)⟩
    simp only [Act.put, List.setIfInBounds_toArray, List.set_cons_zero, List.set_cons_succ]
    repeat (first
      | (refine m_held (by rfl) (by rfl) (fun K hK => ?_); go_big_quiet_step (fail); refine wpQuiet_nil ?_; refine hK.out _ ?_; clear hK K)
      | (refine m_skip (by rfl) ?_; simp only [Act.put, List.setIfInBounds_toArray, List.set_cons_zero, List.set_cons_succ]))
    refine m_nil ?_
    intro w8 h8
    have k8 := HR.out.below h8
    obtain ⟨⟨q0, q1, q2, q3, q4, q5, q6, q7, q8, q9, q10⟩, zf⟩ := rec_cells k8
    clear HI hne x7
    go_wp2_with fail
    (try simp only [Exit.inBlock, Exit.then])
    have k9 := rec_set k8 1 (S.hd p) (S.hd c) nb.prev (S.hd b) (j : Int) ⟨#[]⟩ ⟨#[]⟩ false 0 0
    refine bodyPost_ret (v := .agg (recC 1 (S.hd p) (S.hd c) nb.prev (S.hd b) j [] [] false 0 0).toArray) (results_cell_row Tryd.results56 _ _ w.heap.size 90 _ (0, 0) _ ?_ k9 Tryd.underlying90 rfl infoRec) rfl ?_
    · rfl
    have HRC : ∀ {wf}, Chg (fun k => k = w.heap.size) w8 wf → TAt B R S7 (.slice (some ⟨g, 0, none⟩) S7.slots.length cap) fv wf ∧ Chg (fun k => k = g) w wf := fun {wf} hc => by
      refine ⟨(HT7.out.below h8).recd k8 hc, ?_⟩
      have e3 : Chg (fun k => k = g) w w3 := Chg.of_below hB3
      have e8 : Chg (fun k => k = g) w w8 := ((((e3.trans HC4.out (fun _ _ h => h)).trans HC5.out (fun _ _ h => h)).trans HC6.out (fun _ _ h => h)).trans HC7.out (fun _ _ h => h)).trans (Chg.of_below (F := fun k => k = g) h8) (fun _ _ h => h)
      exact e8.trans hc (fun i hi e => by omega)
    exact ⟨S7, hlk, rfl, HRC (rec_chg w8 w.heap.size _ _ _ _ _ _ _ _ _ _ _)⟩
end Go.Proofs.YtfdofkokiaapoaaDoor.W
end
section
/- The nodes of a tree counted from its tops: plain. -/
namespace Go.Proofs.YtfdofkokiaapoaaDoor.W
set_option linter.unusedVariables false
set_option linter.unusedSimpArgs false

/-- the number of the nodes of a subtree -/
def szK (K : Nat → List Nat) : Nat → Nat → Nat
  | 0, _ => 1
  | f + 1, i => 1 + ((K i).map (szK K f)).sum

theorem sum_szK (K : Nat → List Nat) (f : Nat) : ∀ l : List Nat, (l.map (szK K (f + 1))).sum = l.length + ((l.flatMap K).map (szK K f)).sum
  | [] => rfl
  | x :: l => by
    rw [List.map_cons, List.sum_cons, sum_szK K f l, List.flatMap_cons, List.map_append, List.sum_append, List.length_cons, show szK K (f + 1) x = 1 + ((K x).map (szK K f)).sum from rfl]
    omega
theorem sum_szK0 (K : Nat → List Nat) : ∀ l : List Nat, (l.map (szK K 0)).sum = l.length
  | [] => rfl
  | x :: l => by rw [List.map_cons, List.sum_cons, sum_szK0 K l, List.length_cons, show szK K 0 x = 1 from rfl]; omega

/-- the used slots that stand deeper than n -/
def deep (S : Tr) (d : Nat → Nat) (n : Nat) : List Nat := (List.range S.slots.length).filter fun i => (S.at i).isSome && decide (n < d i)
theorem mem_deep {S : Tr} {d : Nat → Nat} {n i : Nat} : i ∈ deep S d n ↔ (S.at i).isSome = true ∧ n < d i := by
  unfold deep
  rw [List.mem_filter, List.mem_range, Bool.and_eq_true, decide_eq_true_iff]
  constructor
  · rintro ⟨_, h⟩; exact h
  · rintro ⟨h1, h2⟩
    obtain ⟨m, hm⟩ := Option.isSome_iff_exists.1 h1
    exact ⟨at_lt hm, h1, h2⟩
theorem deep_nodup (S : Tr) (d : Nat → Nat) (n : Nat) : (deep S d n).Nodup := List.Pairwise.filter _ List.nodup_range
theorem len_of_mem {l m : List Nat} (hl : l.Nodup) (hm : m.Nodup) (h : ∀ x, x ∈ l ↔ x ∈ m) : l.length = m.length := ((List.perm_ext_iff_of_nodup hl hm).2 h).length_eq
theorem nodup_flatMap {S K d} (h : Lk S K d) : ∀ l : List Nat, l.Nodup → (l.flatMap K).Nodup
  | [], _ => List.nodup_nil
  | x :: l, hl => by
    rw [List.nodup_cons] at hl
    rw [List.flatMap_cons, List.nodup_append]
    refine ⟨h.nodup x, nodup_flatMap h l hl.2, ?_⟩
    rintro a ha b hb rfl
    obtain ⟨y, hy, hay⟩ := List.mem_flatMap.1 hb
    have := h.one_par ha hay
    subst this
    exact hl.1 hy

theorem count_deep {S K d} (h : Lk S K d) : ∀ (f n : Nat) (l : List Nat), n + f = 127 → l.Nodup → (∀ i, i ∈ l ↔ (S.at i).isSome = true ∧ d i = n + 1) → (l.map (szK K f)).sum = (deep S d n).length
  | 0, n, l, hn, hl, hm => by
    rw [sum_szK0]
    refine len_of_mem hl (deep_nodup _ _ _) (fun x => ?_)
    rw [hm, mem_deep]
    have := h.low x
    constructor
    · rintro ⟨a, b⟩; exact ⟨a, by omega⟩
    · rintro ⟨a, b⟩; exact ⟨a, by omega⟩
  | f + 1, n, l, hn, hl, hm => by
    have hn2 : (l.flatMap K).Nodup := nodup_flatMap h l hl
    have hm2 : ∀ i, i ∈ l.flatMap K ↔ (S.at i).isSome = true ∧ d i = (n + 1) + 1 := by
      intro i
      rw [List.mem_flatMap]
      constructor
      · rintro ⟨p, hp, hi⟩
        have := (hm p).1 hp
        exact ⟨(h.kin p i hi).2, by rw [h.dep p i hi, this.2]⟩
      · rintro ⟨h1, h2⟩
        by_cases hp : ∃ p, i ∈ K p
        · obtain ⟨p, hp⟩ := hp
          have := h.dep p i hp
          exact ⟨p, (hm p).2 ⟨(h.kin p i hp).1, by omega⟩, hp⟩
        · have := h.one i h1 (fun p hi => hp ⟨p, hi⟩)
          omega
    rw [sum_szK, count_deep h f (n + 1) _ (by omega) hn2 hm2, ← List.length_append]
    refine len_of_mem ?_ (deep_nodup _ _ _) (fun x => ?_)
    · rw [List.nodup_append]
      refine ⟨hl, deep_nodup _ _ _, ?_⟩
      rintro a ha b hb rfl
      have h1 := (hm a).1 ha
      have h2 := mem_deep.1 hb
      omega
    · rw [List.mem_append, hm, mem_deep, mem_deep]
      constructor
      · rintro (⟨a, b⟩ | ⟨a, b⟩) <;> exact ⟨a, by omega⟩
      · rintro ⟨a, b⟩
        by_cases e : d x = n + 1
        · exact .inl ⟨a, e⟩
        · exact .inr ⟨a, by omega⟩

theorem range_shift (p : Nat → Bool) (n : Nat) : ((List.range (n + 1)).filter p).length = (if p 0 = true then 1 else 0) + ((List.range n).filter fun i => p (i + 1)).length := by
  rw [List.range_succ_eq_map, List.filter_cons, List.filter_map, Function.comp_def]
  split <;> simp <;> omega
theorem live_range (l : List (Option Nd)) : (l.filter Option.isSome).length = ((List.range l.length).filter fun i => ((l[i]?).join).isSome).length := by
  induction l with
  | nil => rfl
  | cons x l ih =>
    rw [List.length_cons, range_shift]
    simp only [List.getElem?_cons_succ, List.getElem?_cons_zero]
    rw [← ih, List.filter_cons]
    cases x <;> simp <;> omega
/-- the subtrees of all tops together have as many nodes as there are -/
theorem count_all {S K d} (h : Lk S K d) (hpos : ∀ i, (S.at i).isSome = true → 1 ≤ d i) (l : List Nat) (hl : l.Nodup) (hm : ∀ i, i ∈ l ↔ (S.at i).isSome = true ∧ ∀ p, i ∉ K p) : (l.map (szK K 127)).sum = S.live := by
  rw [count_deep h 127 0 l rfl hl]
  · show ((List.range S.slots.length).filter _).length = (S.slots.filter Option.isSome).length
    rw [live_range]
    congr 1
    refine List.filter_congr (fun i _ => ?_)
    show ((S.at i).isSome && _) = (S.at i).isSome
    cases e : (S.at i).isSome with
    | false => rfl
    | true => have := hpos i e; simp; omega
  · intro i
    rw [hm]
    constructor
    · rintro ⟨a, b⟩; exact ⟨a, h.one i a b⟩
    · rintro ⟨a, b⟩
      refine ⟨a, fun p hp => ?_⟩
      have h1 := h.dep p i hp
      have h2 := hpos p (h.kin p i hp).1
      omega
theorem Lk.pos {S K d} (h : Lk S K d) (i : Nat) (hi : (S.at i).isSome = true) : 1 ≤ d i := by
  by_cases hp : ∃ p, i ∈ K p
  · obtain ⟨p, hp⟩ := hp
    have := h.dep p i hp
    omega
  · have := h.one i hi (fun p hx => hp ⟨p, hx⟩)
    omega
end Go.Proofs.YtfdofkokiaapoaaDoor.W
end
section
/- Trees of plain elements, as TreeDeep builds them: plain. -/
namespace Go.Proofs.YtfdofkokiaapoaaDoor.W
open Go
set_option linter.unusedVariables false
set_option linter.unusedSimpArgs false

def Tr.snoc (S : Tr) (n : Nd) : Tr := { S with slots := S.slots ++ [some n] }
theorem at_none_ge {S : Tr} {i : Nat} (h : S.slots.length ≤ i) : S.at i = none := by unfold Tr.at; rw [List.getElem?_eq_none h]; rfl
theorem at_snoc (S : Tr) (n : Nd) (x : Nat) : (S.snoc n).at x = if x = S.slots.length then some n else S.at x := by
  unfold Tr.at Tr.snoc
  simp only []
  by_cases h : x = S.slots.length
  · subst h; simp
  · rw [if_neg h]
    by_cases h2 : x < S.slots.length
    · rw [List.getElem?_append_left h2]
    · rw [List.getElem?_eq_none (by rw [List.length_append, List.length_singleton]; omega), List.getElem?_eq_none (by omega)]
theorem live_snoc (S : Tr) (n : Nd) : (S.snoc n).live = S.live + 1 := by unfold Tr.live Tr.snoc; simp
theorem hd_snoc (S : Tr) (n : Nd) (i : Nat) : (S.snoc n).hd i = S.hd i := rfl
theorem snoc_len (S : Tr) (n : Nd) : (S.snoc n).slots.length = S.slots.length + 1 := by unfold Tr.snoc; simp
theorem hO_snoc (S : Tr) (n : Nd) (o : Option Nat) : hO (S.snoc n) o = hO S o := by cases o <;> rfl
theorem Lk.no_kids {S K d} (h : Lk S K d) {i : Nat} (hi : S.at i = none) : K i = [] := by
  cases e : K i with
  | nil => rfl
  | cons k t => have := (h.kin i k (by rw [e]; simp)).1; rw [hi] at this; cases this
theorem Lk.no_par {S K d} (h : Lk S K d) {i : Nat} (hi : S.at i = none) (p : Nat) : i ∉ K p := fun hk => by
  have := (h.kin p i hk).2; rw [hi] at this; cases this

/-- a new slot, detached -/
theorem Lk.snoc {S K d} (h : Lk S K d) {n : Nd} (h1 : n.parent = 0) (h2 : n.first = 0) (h3 : n.last = 0) (h4 : n.prev = 0) (h5 : n.next = 0) (hl : S.slots.length < 1000000) : Lk (S.snoc n) K (fun x => if x = S.slots.length then 1 else d x) := by
  have hnew : S.at S.slots.length = none := at_none_ge (Nat.le_refl _)
  have hmem : ∀ {p k}, k ∈ K p → k ≠ S.slots.length ∧ p ≠ S.slots.length := fun {p k} hk => by
    have := h.kin p k hk
    constructor
    · rintro rfl; rw [hnew] at this; cases this.2
    · rintro rfl; rw [hnew] at this; cases this.1
  refine ⟨?_, ?_, ?_, ?_, h.nodup, ?_, ?_, ?_, by rw [snoc_len]; omega⟩
  · intro p k hk
    obtain ⟨e1, e2⟩ := hmem hk
    rw [at_snoc, at_snoc, if_neg e1, if_neg e2]
    exact h.kin p k hk
  · intro i m hi
    rw [at_snoc] at hi
    rw [hO_snoc, hO_snoc]
    by_cases e : i = S.slots.length
    · subst e
      rw [if_pos rfl] at hi
      cases hi
      rw [h.no_kids hnew]
      exact ⟨h2, h3⟩
    · rw [if_neg e] at hi; exact h.node i m hi
  · intro p j k m hk hm
    obtain ⟨e1, e2⟩ := hmem (List.mem_of_getElem? hk)
    rw [at_snoc, if_neg e1] at hm
    rw [hO_snoc, hO_snoc, hd_snoc]
    exact h.kid p j k m hk hm
  · intro i m hi hp
    rw [at_snoc] at hi
    by_cases e : i = S.slots.length
    · rw [if_pos e] at hi
      cases hi
      exact ⟨h1, h4, h5⟩
    · rw [if_neg e] at hi; exact h.top i m hi hp
  · intro p k hk
    obtain ⟨e1, e2⟩ := hmem hk
    simp only [if_neg e1, if_neg e2]
    exact h.dep p k hk
  · intro i hi hp
    rw [at_snoc] at hi
    by_cases e : i = S.slots.length
    · simp only [if_pos e]
    · rw [if_neg e] at hi
      simp only [if_neg e]
      exact h.one i hi hp
  · intro i
    by_cases e : i = S.slots.length
    · simp only [if_pos e]; omega
    · simp only [if_neg e]; exact h.low i

theorem pr_mem {S K d} (h : Lk S K d) {x y : Nat} (hp : pr S x = some y) : x ∈ K y := by
  unfold pr at hp
  cases e : S.at x with
  | none => rw [e] at hp; cases hp
  | some n =>
    obtain ⟨o, h1, h2, h3, h4⟩ := par_of h e
    have := pr_of h e h1 h2
    unfold pr at this
    rw [this] at hp
    exact (h4 y hp).1
/-- what stands outside a set that holds every node's parent is above none of its nodes -/
theorem contB_out {S K d} (h : Lk S K d) (A : Nat → Prop) (hA : ∀ x y, x ∈ K y → A x → A y) {a : Nat} (ha : ¬ A a) : ∀ (f : Nat) (o : Option Nat), (∀ x, o = some x → A x) → contB S a f o = false
  | 0, _, _ => rfl
  | f + 1, none, _ => rfl
  | f + 1, some x, ho => by
    have hx := ho x rfl
    show (a == x || contB S a f (pr S x)) = false
    have hne : (a == x) = false := by simp; rintro rfl; exact ha hx
    rw [hne, Bool.false_or]
    exact contB_out h A hA ha f (pr S x) (fun y hy => hA x y (pr_mem h hy) hx)
theorem contB_kid {S K d} (h : Lk S K d) {p k : Nat} (hk : k ∈ K p) (f : Nat) : contB S k f (some p) = false :=
  contB_out h (fun z => d z ≤ d p) (fun x y hx hz => by have := h.dep y x hx; omega) (by have := h.dep p k hk; omega) f _ (fun x hx => by cases hx; exact Nat.le_refl _)
theorem hgt_leaf {K : Nat → List Nat} {c : Nat} (h : K c = []) : ∀ f, hgt K f c = 1
  | 0 => rfl
  | f + 1 => by unfold hgt; rw [h]; rfl
theorem hgt_chain {K : Nat → List Nat} {a y : Nat} (h1 : ∀ j, a ≤ j → j < y → K j = [j + 1]) (h2 : K y = []) : ∀ f j, a ≤ j → j ≤ y → y - j ≤ f → hgt K f j = y - j + 1
  | 0, j, _, hj, hf => by rw [show hgt K 0 j = 1 from rfl]; omega
  | f + 1, j, ha, hj, hf => by
    by_cases e : j = y
    · subst e; rw [hgt_leaf h2]; omega
    · unfold hgt
      rw [h1 j ha (by omega)]
      simp only [List.foldl_cons, List.foldl_nil]
      rw [hgt_chain h1 h2 f (j + 1) (by omega) (by omega) (by omega)]
      omega

/-- the letters that TreeDeep uses -/
def Ltr (c : UInt8) : Prop := c = 98 ∨ c = 105 ∨ c = 112
/-- an element without attributes -/
def Pln (n : Nd) : Prop := n.kind = 2 ∧ (∃ c, Ltr c ∧ n.name = [c]) ∧ n.av = .slice none 0 0 ∧ n.attrs = [] ∧ n.data = []
def Doc (n : Nd) : Prop := n.kind = 1 ∧ n.name = [] ∧ n.av = .slice none 0 0 ∧ n.attrs = [] ∧ n.data = []
/-- a tree of such elements: nothing was ever dropped; the document stands in slot 0 -/
structure Dp (S : Tr) (K : Nat → List Nat) (d : Nat → Nat) : Prop where
  lk : Lk S K d
  free : S.free = []
  root : S.root = S.hd 0
  used : ∀ i, i < S.slots.length → (S.at i).isSome = true
  doc : ∃ n, S.at 0 = some n ∧ Doc n
  el : ∀ i n, i ≠ 0 → S.at i = some n → Pln n
  top : ∀ p, 0 ∉ K p
  one : (K 0).length ≤ 1

def newN (k : Int) (name : List UInt8) : Nd := ⟨k, name, .slice none 0 0, [], [], 0, 0, 0, 0, 0⟩
theorem Dp.pos {S K d} (h : Dp S K d) : 0 < S.slots.length := by obtain ⟨n, hn, _⟩ := h.doc; exact at_lt hn
theorem Dp.snoc {S K d} (h : Dp S K d) {c : UInt8} (hn : Ltr c) (hl : S.slots.length < 1000000) : Dp (S.snoc (newN 2 [c])) K (fun x => if x = S.slots.length then 1 else d x) := by
  have h0 := h.pos
  refine ⟨h.lk.snoc rfl rfl rfl rfl rfl hl, h.free, h.root, ?_, ?_, ?_, h.top, h.one⟩
  · intro i hi
    rw [snoc_len] at hi
    rw [at_snoc]
    by_cases e : i = S.slots.length
    · rw [if_pos e]; rfl
    · rw [if_neg e]; exact h.used i (by omega)
  · obtain ⟨n, hn, hd⟩ := h.doc
    exact ⟨n, by rw [at_snoc, if_neg (by omega)]; exact hn, hd⟩
  · intro i n hi hx
    rw [at_snoc] at hx
    by_cases e : i = S.slots.length
    · rw [if_pos e] at hx; cases hx; exact ⟨rfl, ⟨c, hn, rfl⟩, rfl, rfl, rfl⟩
    · rw [if_neg e] at hx; exact h.el i n hi hx

/-- a detached node hung under one without children or under an element -/
theorem Dp.link {S S' : Tr} {K : Nat → List Nat} {d d' : Nat → Nat} (h : Dp S K d) {p c : Nat} (hl : Linked S S' (K p) p (K p).length c) (hk : Lk S' (linkK K p (K p).length c) d') (hc : c ≠ 0) (hp : p = 0 → K 0 = []) : Dp S' (linkK K p (K p).length c) d' := by
  have hlK : ∀ q, q ≠ p → linkK K p (K p).length c q = K q := fun q hq => by unfold linkK; rw [if_neg hq]
  have hlP : linkK K p (K p).length c p = K p ++ [c] := by unfold linkK; rw [if_pos rfl]; simp
  have hback : ∀ x n', S'.at x = some n' → ∃ n, S.at x = some n ∧ n'.kind = n.kind ∧ n'.name = n.name ∧ n'.av = n.av ∧ n'.attrs = n.attrs ∧ n'.data = n.data := fun x n' hx => by
    rw [hl.at_] at hx
    obtain ⟨n, hn, rfl⟩ := Option.map_eq_some_iff.1 hx
    exact ⟨n, hn, rfl, rfl, rfl, rfl, rfl⟩
  refine ⟨hk, by rw [hl.free]; exact h.free, by rw [hl.root, hl.hd]; exact h.root, ?_, ?_, ?_, ?_, ?_⟩
  · intro i hi
    rw [hl.len] at hi
    have := h.used i hi
    rw [hl.at_]
    cases e : S.at i with
    | none => rw [e] at this; cases this
    | some n => rfl
  · obtain ⟨n, hn, hd⟩ := h.doc
    exact ⟨linkN S (K p) p (K p).length c 0 n, by rw [hl.at_, hn]; rfl, hd⟩
  · intro i n' hi hx
    obtain ⟨n, hn, e1, e2, e3, e4, e5⟩ := hback i n' hx
    obtain ⟨a1, a2, a3, a4, a5⟩ := h.el i n hi hn
    exact ⟨e1.trans a1, by rw [e2]; exact a2, e3.trans a3, e4.trans a4, e5.trans a5⟩
  · intro q hq
    by_cases e : q = p
    · subst e
      rw [hlP, List.mem_append, List.mem_singleton] at hq
      rcases hq with hq | hq
      · exact h.top q hq
      · exact hc hq.symm
    · rw [hlK q e] at hq; exact h.top q hq
  · by_cases e : p = 0
    · subst e
      rw [hlP, hp rfl]; simp
    · rw [hlK 0 (fun x => e x.symm)]; exact h.one

theorem Dp.may {S K d} (h : Dp S K d) {p k : Nat} {np nk : Nd} (hk : k ∈ K p) (hp : S.at p = some np) (hn : S.at k = some nk) : mayB S K d p k np nk = true := by
  have hk0 : k ≠ 0 := by rintro rfl; exact h.top p hk
  have hkn := h.el k nk hk0 hn
  unfold mayB
  rw [contB_kid h.lk hk]
  rw [hkn.1]
  by_cases e : p = 0
  · subst e
    obtain ⟨n, hn0, hd⟩ := h.doc
    rw [hp] at hn0
    cases hn0
    rw [hd.1]
    have h1 := h.one
    have hK : K 0 = [k] := by
      cases e : K 0 with
      | nil => rw [e] at hk; cases hk
      | cons a t =>
        rw [e] at hk h1
        cases t with
        | nil => simp at hk; rw [hk]
        | cons b t => simp at h1
    rw [hK]
    simp [elemB]
  · rw [(h.el p np e hp).1]
    simp
/-- may a detached node of those be hung under another -/
theorem Dp.may_new {S K d} (h : Dp S K d) {p c : Nat} {np nc : Nd} (hp : S.at p = some np) (hc : S.at c = some nc) (hc0 : c ≠ 0) (hp0 : p = 0 → K 0 = []) (A : Nat → Prop) (hA : ∀ x y, x ∈ K y → A x → A y) (ha : ¬ A c) (hpA : A p) : mayB S K d p c np nc = true := by
  unfold mayB
  rw [contB_out h.lk A hA ha _ _ (fun x hx => by cases hx; exact hpA), (h.el c nc hc0 hc).1]
  by_cases e : p = 0
  · subst e
    obtain ⟨n, hn0, hd⟩ := h.doc
    rw [hp] at hn0
    cases hn0
    rw [hd.1, hp0 rfl]
    simp
  · rw [(h.el p np e hp).1]
    simp
theorem live_all : ∀ (l : List (Option Nd)), (∀ i, i < l.length → ∃ n, l[i]? = some (some n)) → (l.filter Option.isSome).length = l.length
  | [], _ => rfl
  | x :: l, h => by
    obtain ⟨n, hn⟩ := h 0 (by simp)
    simp at hn
    subst hn
    have := live_all l (fun i hi => by have := h (i + 1) (by simp; omega); simpa using this)
    simp [this]
end Go.Proofs.YtfdofkokiaapoaaDoor.W
end
section
/- The two loops of TreeDeep: plain. -/
namespace Go.Proofs.YtfdofkokiaapoaaDoor.W
open Go
set_option linter.unusedVariables false
set_option linter.unusedSimpArgs false

/-- the links when c, with all that hangs below it (T), is hung under p as its last child -/
theorem hang {S : Tr} {K : Nat → List Nat} {d : Nat → Nat} (h : Lk S K d) {p c : Nat} (hp : (S.at p).isSome = true) (hc : (S.at c).isSome = true) (hdet : ∀ q, c ∉ K q) (T : Nat → Prop) [DecidablePred T] (hTc : T c) (hTp : ¬ T p)
    (hT : ∀ q k, k ∈ K q → (T q ↔ T k)) (hTt : ∀ x, T x → (S.at x).isSome = true → (∀ q, x ∉ K q) → x = c) (hdp : ∀ x, T x → d x + d p ≤ 128) :
    ∀ S', Linked S S' (K p) p (K p).length c → Lk S' (linkK K p (K p).length c) (fun x => if T x then d x + d p else d x) := by
  intro S' hl
  obtain ⟨np, hp⟩ := Option.isSome_iff_exists.1 hp
  obtain ⟨nc, hc⟩ := Option.isSome_iff_exists.1 hc
  have hpc : p ≠ c := by rintro rfl; exact hTp hTc
  refine Lk.link h hp hc (Nat.le_refl _) hdet hpc hl.at_ hl.len hl.hd ?_ ?_ ?_ ?_ ?_
  · simp only [if_pos hTc, if_neg hTp]
    rw [h.one c (by rw [hc]; rfl) hdet]; omega
  · intro q k hk
    have h1 := hT q k hk
    have h2 := h.dep q k hk
    by_cases e : T q
    · simp only [if_pos e, if_pos (h1.1 e)]; omega
    · simp only [if_neg e, if_neg (fun x => e (h1.2 x))]; omega
  · simp only [if_neg hTp]
  · intro x
    by_cases e : T x
    · simp only [if_pos e]; exact hdp x e
    · simp only [if_neg e]; exact h.low x
  · intro x hx hxc hq
    have : ¬ T x := fun e => hxc (hTt x e hx hq)
    simp only [if_neg this]
    exact h.one x hx hq
theorem linkK_other {K : Nat → List Nat} {p j c q : Nat} (h : q ≠ p) : linkK K p j c q = K q := by unfold linkK; rw [if_neg h]
theorem linkK_last {K : Nat → List Nat} {p c : Nat} : linkK K p (K p).length c p = K p ++ [c] := by unfold linkK; rw [if_pos rfl]; simp
theorem mem_linkK {K : Nat → List Nat} {p c q k : Nat} (h : k ∈ linkK K p (K p).length c q) : k ∈ K q ∨ (q = p ∧ k = c) := by
  by_cases e : q = p
  · subst e
    rw [linkK_last, List.mem_append, List.mem_singleton] at h
    rcases h with h | h
    · exact .inl h
    · exact .inr ⟨rfl, h⟩
  · rw [linkK_other e] at h; exact .inl h

/-- the first loop: i nodes, each below the one before -/
structure C1 (S : Tr) (K : Nat → List Nat) (d : Nat → Nat) (p i : Nat) : Prop where
  dp : Dp S K d
  at_ : (S.at p).isSome = true
  leaf : K p = []
  dep : d p = min (i + 1) 128
  zero : p = 0 ↔ i = 0
  len : S.slots.length = i + 1

abbrev newC (c : UInt8) (S : Tr) : Tr := S.snoc (newN 2 [c])
abbrev newI (S : Tr) : Tr := newC 105 S
theorem ltr_b : Ltr 98 := .inl rfl
theorem ltr_i : Ltr 105 := .inr (.inl rfl)
theorem ltr_p : Ltr 112 := .inr (.inr rfl)
def dNew (S : Tr) (d : Nat → Nat) (x : Nat) : Nat := if x = S.slots.length then 1 else d x
def dHang (d : Nat → Nat) (T : Nat → Prop) [DecidablePred T] (p x : Nat) : Nat := if T x then d x + d p else d x

theorem at_lt' {S : Tr} {i : Nat} (h : (S.at i).isSome = true) : i < S.slots.length := by obtain ⟨n, hn⟩ := Option.isSome_iff_exists.1 h; exact at_lt hn
theorem at_snoc_old {S : Tr} {n : Nd} {i : Nat} (h : (S.at i).isSome = true) : (S.snoc n).at i = S.at i := by rw [at_snoc, if_neg (by have := at_lt' h; omega)]
theorem at_snoc_new (S : Tr) (n : Nd) : (S.snoc n).at S.slots.length = some n := by rw [at_snoc, if_pos rfl]

/-- what holds behind the new node of a round: the old place p and the new c -/
theorem C1.made {S K d p i} {c : UInt8} (hc : Ltr c) (h : C1 S K d p i) (hi : i < 1000) : Dp (newC c S) K (dNew S d) ∧ ((newC c S).at p).isSome = true ∧ dNew S d p = min (i + 1) 128 ∧ p ≠ i + 1 ∧ (∀ q, i + 1 ∉ K q) ∧ K (i + 1) = [] ∧ (newC c S).at (i + 1) = some (newN 2 [c]) := by
  have hn : S.at (i + 1) = none := at_none_ge (by rw [h.len]; omega)
  have hpl := at_lt' h.at_
  have hlen := h.len
  refine ⟨h.dp.snoc hc (by omega), by rw [at_snoc_old h.at_]; exact h.at_, ?_, by omega, h.dp.lk.no_par hn, h.dp.lk.no_kids hn, ?_⟩
  · unfold dNew; rw [if_neg (by omega)]; exact h.dep
  · rw [← h.len]; exact at_snoc_new S _
/-- too deep: the new node stays alone -/
theorem C1.stay {S K d p i} {c : UInt8} (hl' : Ltr c) (h : C1 S K d p i) (hi : i < 1000) (h128 : 128 < i + 2) : C1 (newC c S) K (dNew S d) p (i + 1) := by
  obtain ⟨a1, a2, a3, a4, a5, a6, a7⟩ := C1.made hl' h hi
  have := h.zero
  exact ⟨a1, a2, h.leaf, by omega, by omega, by rw [snoc_len, h.len]⟩
theorem C1.lk {S K d p i} {c : UInt8} (hl' : Ltr c) (h : C1 S K d p i) (hi : i < 1000) (h128 : i + 2 ≤ 128) : ∀ S', Linked (newC c S) S' (K p) p (K p).length (i + 1) → Lk S' (linkK K p (K p).length (i + 1)) (dHang (dNew S d) (fun x => x = i + 1) p) := by
  obtain ⟨a1, a2, a3, a4, a5, a6, a7⟩ := C1.made hl' h hi
  refine hang a1.lk a2 (by rw [a7]; rfl) a5 (fun x => x = i + 1) rfl a4 ?_ ?_ ?_
  · intro q k hk
    constructor
    · rintro rfl; rw [a6] at hk; cases hk
    · rintro rfl; exact absurd hk (a5 q)
  · intro x hx _ _; exact hx
  · rintro x rfl
    have : dNew S d (i + 1) = 1 := by unfold dNew; rw [if_pos h.len.symm]
    omega
theorem C1.hung {S K d p i} {c : UInt8} (hl' : Ltr c) (h : C1 S K d p i) (hi : i < 1000) (h128 : i + 2 ≤ 128) {S'} (hl : Linked (newC c S) S' (K p) p (K p).length (i + 1)) : C1 S' (linkK K p (K p).length (i + 1)) (dHang (dNew S d) (fun x => x = i + 1) p) (i + 1) (i + 1) := by
  obtain ⟨a1, a2, a3, a4, a5, a6, a7⟩ := C1.made hl' h hi
  refine ⟨a1.link hl (C1.lk hl' h hi h128 S' hl) (by omega) (fun e => by subst e; exact h.leaf), ?_, ?_, ?_, by omega, ?_⟩
  · rw [hl.at_, a7]; rfl
  · rw [linkK_other (by omega)]; exact a6
  · unfold dHang; rw [if_pos rfl]
    have : dNew S d (i + 1) = 1 := by unfold dNew; rw [if_pos h.len.symm]
    omega
  · rw [hl.len, snoc_len, h.len]
theorem C1.may {S K d p i} {c : UInt8} (hl' : Ltr c) (h : C1 S K d p i) (hi : i < 1000) {np nc : Nd} (hp : (newC c S).at p = some np) (hc : (newC c S).at (i + 1) = some nc) : mayB (newC c S) K (dNew S d) p (i + 1) np nc = true := by
  obtain ⟨a1, a2, a3, a4, a5, a6, a7⟩ := C1.made hl' h hi
  exact a1.may_new hp hc (by omega) (fun e => by subst e; exact h.leaf) (fun x => x ≠ i + 1) (fun x y hx _ => by rintro rfl; rw [a6] at hx; cases hx) (fun h => h rfl) a4

/-- the second loop: a chain of y - N + 1 nodes beside the first -/
structure C2 (S : Tr) (K : Nat → List Nat) (d : Nat → Nat) (p D N y : Nat) : Prop where
  dp : Dp S K d
  at_ : (S.at p).isSome = true
  leaf : K p = []
  dep : d p = D
  pN : p < N
  Ny : N ≤ y
  len : S.slots.length = y + 1
  chain : ∀ j, N ≤ j → j < y → K j = [j + 1]
  last : K y = []
  deps : ∀ j, N ≤ j → j ≤ y → d j = j - N + 1
  apart : ∀ q k, k ∈ K q → (N ≤ q ↔ N ≤ k)
  top : ∀ q, N ∉ K q

theorem start_lk (b s : Int) : Lk ⟨b, s, [some (newN 1 [])], [], hdl b s 0⟩ (fun _ => []) (fun _ => 1) := by
  have hat : ∀ i n, (⟨b, s, [some (newN 1 [])], [], hdl b s 0⟩ : Tr).at i = some n → n = newN 1 [] := fun i n hi => by
    cases i with
    | zero => cases hi; rfl
    | succ i => simp [Tr.at] at hi
  refine ⟨fun p k hk => (by simp at hk), fun i n hi => ?_, fun p j k n hk _ => (by simp at hk), fun i n hi _ => ?_, fun p => List.nodup_nil, fun p k hk => (by simp at hk), fun _ _ _ => rfl, fun _ => by omega, by simp⟩
  · rw [hat i n hi]; exact ⟨rfl, rfl⟩
  · rw [hat i n hi]; exact ⟨rfl, rfl, rfl⟩
theorem start_c1 (b s : Int) : C1 ⟨b, s, [some (newN 1 [])], [], hdl b s 0⟩ (fun _ => []) (fun _ => 1) 0 0 := by
  refine ⟨⟨start_lk b s, rfl, rfl, ?_, ⟨newN 1 [], rfl, rfl, rfl, rfl, rfl, rfl⟩, ?_, fun p => (by simp), by simp⟩, rfl, rfl, rfl, by simp, rfl⟩
  · intro i hi
    simp at hi
    subst hi
    rfl
  · intro i n hi hx
    cases i with
    | zero => exact absurd rfl hi
    | succ i => simp [Tr.at] at hx
theorem C1.second {S K d p i} (h : C1 S K d p i) (hi : i < 1000) : C2 (newI S) K (dNew S d) p (min (i + 1) 128) (i + 1) (i + 1) := by
  have hn : S.at (i + 1) = none := at_none_ge (by rw [h.len]; omega)
  have hpl := at_lt' h.at_
  have hlen := h.len
  refine ⟨h.dp.snoc ltr_i (by omega), by rw [at_snoc_old h.at_]; exact h.at_, h.leaf, ?_, by omega, Nat.le_refl _, by rw [snoc_len, h.len], fun j h1 h2 => by omega, h.dp.lk.no_kids hn, ?_, ?_, h.dp.lk.no_par hn⟩
  · unfold dNew; rw [if_neg (by omega)]; exact h.dep
  · intro j h1 h2
    obtain rfl : j = i + 1 := by omega
    unfold dNew; rw [if_pos h.len.symm]; omega
  · intro q k hk
    have := h.dp.lk.kin q k hk
    have h1 := at_lt' this.1
    have h2 := at_lt' this.2
    omega

theorem C2.made {S K d p D N y} (h : C2 S K d p D N y) (hy : y < 1000) : Dp (newI S) K (dNew S d) ∧ ((newI S).at y).isSome = true ∧ dNew S d y = y - N + 1 ∧ (∀ q, y + 1 ∉ K q) ∧ K (y + 1) = [] ∧ (newI S).at (y + 1) = some (newN 2 [105]) := by
  have hn : S.at (y + 1) = none := at_none_ge (by rw [h.len]; omega)
  have hlen := h.len
  have hu := h.dp.used y (by omega)
  refine ⟨h.dp.snoc ltr_i (by omega), by rw [at_snoc_old hu]; exact hu, ?_, h.dp.lk.no_par hn, h.dp.lk.no_kids hn, ?_⟩
  · unfold dNew; rw [if_neg (by omega)]; exact h.deps y h.Ny (Nat.le_refl _)
  · rw [← h.len]; exact at_snoc_new S _
theorem C2.lk {S K d p D N y} (h : C2 S K d p D N y) (hy : y < 1000) (h128 : y - N + 2 ≤ 128) : ∀ S', Linked (newI S) S' (K y) y (K y).length (y + 1) → Lk S' (linkK K y (K y).length (y + 1)) (dHang (dNew S d) (fun x => x = y + 1) y) := by
  obtain ⟨a1, a2, a3, a5, a6, a7⟩ := h.made hy
  refine hang a1.lk a2 (by rw [a7]; rfl) a5 (fun x => x = y + 1) rfl (by omega) ?_ ?_ ?_
  · intro q k hk
    constructor
    · rintro rfl; rw [a6] at hk; cases hk
    · rintro rfl; exact absurd hk (a5 q)
  · intro x hx _ _; exact hx
  · rintro x rfl
    have : dNew S d (y + 1) = 1 := by unfold dNew; rw [if_pos h.len.symm]
    omega
theorem C2.hung {S K d p D N y} (h : C2 S K d p D N y) (hy : y < 1000) (h128 : y - N + 2 ≤ 128) {S'} (hl : Linked (newI S) S' (K y) y (K y).length (y + 1)) : C2 S' (linkK K y (K y).length (y + 1)) (dHang (dNew S d) (fun x => x = y + 1) y) p D N (y + 1) := by
  obtain ⟨a1, a2, a3, a5, a6, a7⟩ := h.made hy
  have hlen := h.len
  have hpN := h.pN
  have hNy := h.Ny
  have hyK : K y = [] := h.last
  have hlast : linkK K y (K y).length (y + 1) y = [y + 1] := by rw [linkK_last, hyK]; rfl
  have hd1 : dNew S d (y + 1) = 1 := by unfold dNew; rw [if_pos h.len.symm]
  refine ⟨a1.link hl (h.lk hy h128 S' hl) (by omega) (fun e => by subst e; exact hyK), ?_, ?_, ?_, hpN, by omega, ?_, ?_, ?_, ?_, ?_, ?_⟩
  · rw [hl.at_, at_snoc_old h.at_]
    obtain ⟨n, hn⟩ := Option.isSome_iff_exists.1 h.at_
    rw [hn]; rfl
  · rw [linkK_other (by omega)]; exact h.leaf
  · unfold dHang dNew; rw [if_neg (by omega), if_neg (by omega)]; exact h.dep
  · rw [hl.len, snoc_len, h.len]
  · intro j h1 h2
    by_cases e : j = y
    · subst e; exact hlast
    · rw [linkK_other e]; exact h.chain j h1 (by omega)
  · rw [linkK_other (by omega)]; exact a6
  · intro j h1 h2
    unfold dHang
    by_cases e : j = y + 1
    · subst e; rw [if_pos rfl, hd1, a3]; omega
    · rw [if_neg e]
      unfold dNew; rw [if_neg (by omega)]
      exact h.deps j h1 (by omega)
  · intro q k hk
    rcases mem_linkK hk with hk | ⟨rfl, rfl⟩
    · exact h.apart q k hk
    · omega
  · intro q hq
    rcases mem_linkK hq with hq | ⟨_, e⟩
    · exact h.top q hq
    · omega
theorem C2.may {S K d p D N y} (h : C2 S K d p D N y) (hy : y < 1000) {np nc : Nd} (hp : (newI S).at y = some np) (hc : (newI S).at (y + 1) = some nc) : mayB (newI S) K (dNew S d) y (y + 1) np nc = true := by
  obtain ⟨a1, a2, a3, a5, a6, a7⟩ := h.made hy
  exact a1.may_new hp hc (by omega) (fun e => by subst e; exact h.last) (fun x => x ≠ y + 1) (fun x y' hx _ => by rintro rfl; rw [a6] at hx; cases hx) (fun h => h rfl) (by omega)
/-- the chain hung below p -/
theorem C2.hgt {S K d p D N y} (h : C2 S K d p D N y) (f : Nat) (hf : y - N ≤ f) : hgt K f N = y - N + 1 := hgt_chain h.chain h.last f N (Nat.le_refl _) h.Ny hf
theorem C2.top1 {S K d p D N y} (h : C2 S K d p D N y) : d N = 1 := by rw [h.deps N (Nat.le_refl _) h.Ny]; omega
theorem C2.atN {S K d p D N y} (h : C2 S K d p D N y) : (S.at N).isSome = true := h.dp.used N (by have := h.len; have := h.Ny; omega)
theorem C2.fin_lk {S K d p D N y} (h : C2 S K d p D N y) (h128 : D + (y - N + 1) ≤ 128) : ∀ S', Linked S S' (K p) p (K p).length N → Lk S' (linkK K p (K p).length N) (dHang d (fun x => N ≤ x ∧ x ≤ y) p) := by
  have hlen := h.len
  have hpN := h.pN
  have hNy := h.Ny
  have hb : ∀ q k, k ∈ K q → q ≤ y ∧ k ≤ y := fun q k hk => by
    have := h.dp.lk.kin q k hk
    have h1 := at_lt' this.1
    have h2 := at_lt' this.2
    omega
  refine hang h.dp.lk h.at_ h.atN h.top (fun x => N ≤ x ∧ x ≤ y) ⟨Nat.le_refl _, h.Ny⟩ (by omega) ?_ ?_ ?_
  · intro q k hk
    have := h.apart q k hk
    have := hb q k hk
    omega
  · intro x hx _ hq
    by_cases e : x = N
    · exact e
    · have := h.chain (x - 1) (by omega) (by omega)
      exact absurd (show x ∈ K (x - 1) by rw [this]; simp; omega) (hq _)
  · intro x hx
    rw [h.deps x hx.1 hx.2, h.dep]
    omega
theorem C2.fin {S K d p D N y} (h : C2 S K d p D N y) (h128 : D + (y - N + 1) ≤ 128) {S'} (hl : Linked S S' (K p) p (K p).length N) : Dp S' (linkK K p (K p).length N) (dHang d (fun x => N ≤ x ∧ x ≤ y) p) :=
  h.dp.link hl (h.fin_lk h128 S' hl) (by have := h.pN; omega) (fun e => by subst e; exact h.leaf)
theorem C2.fin_may {S K d p D N y} (h : C2 S K d p D N y) {np nc : Nd} (hp : S.at p = some np) (hc : S.at N = some nc) : mayB S K d p N np nc = true :=
  h.dp.may_new hp hc (by have := h.pN; omega) (fun e => by subst e; exact h.leaf) (fun x => x < N) (fun x y' hx hz => by have := h.apart y' x hx; omega) (by omega) h.pN
end Go.Proofs.YtfdofkokiaapoaaDoor.W
end
