/- Texts joined: LinkM Cnt Dp DpL Add Ins. -/
import Derived.Test.YtacdbnhnhdlmpaaGreatDoorFB8
import Derived.Test.YtacdbnhnhdlmpaaGreatDoorFB4
import Derived.Test.YtacdbnhnhdlmpaaGreatDoorFB1
import Derived.Deep.RegionLaw
import Derived.Test.YtacdbnhnhdlmpaaGreatDoorFB7
set_option maxRecDepth 100000
set_option maxHeartbeats 40000000
set_option linter.unusedVariables false
set_option linter.unusedSimpArgs false
section
namespace Go.Proofs.YtacdbnhnhdlmpaaGreatDoor.W
open Go.RowKit
set_option maxRecDepth 100000 in
set_option maxHeartbeats 8000000 in
theorem link_mid {B R g cap : Nat} {S : Tr} {fv : Value} {w : World} {K : Nat → List Nat} {d d' : Nat → Nat} (h : TAt B R S (.slice (some ⟨g, 0, none⟩) S.slots.length cap) fv w) (hL : Lk S K d) (p c j b : Nat) (np nc nb : Nd) (hp : S.at p = some np) (hc : S.at c = some nc) (hb : S.at b = some nb) (hj : (K p)[j]? = some b) (hpc : p ≠ c)
    (hdet : ∀ q, c ∉ K q) (hL' : ∀ S', Linked S S' (K p) p j c → Lk S' (linkK K p j c) d') :
    Calls Tryz.prog 115 #[.pointer (some ⟨R, 0, none⟩), .int .i64 (S.hd p), .int .i64 (S.hd c), .int .i64 (S.hd b)] w fun e w' => ∃ S', Linked S S' (K p) p j c ∧ e = .returned (.agg (recC 1 (S.hd p) (S.hd c) nb.prev (S.hd b) j [] [] false 0 0).toArray) ∧
      TAt B R S' (.slice (some ⟨g, 0, none⟩) S'.slots.length cap) fv w' ∧ Chg (fun k => k = g) w w' := by
  have hbm := List.mem_of_getElem? hj
  have hbc : b ≠ c := fun e => hdet p (e ▸ hbm)
  have hbp : b ≠ p := fun e => hL.self (e ▸ hbm : p ∈ K p)
  have hpr : nb.prev = hO S (pv (K p) j) := (hL.kid p j b nb hj hb).2.1
  have hjl : j < (K p).length := (List.getElem?_eq_some_iff.1 hj).1
  have hb0 : ¬ S.hd b = 0 := by have := (hd_ok hL hb).2; omega
  have hb1 : (S.hd b == 0) = false := by simpa using hb0
  have HPr := Lib.hid hpr
  clear hpr
  have HP := Lib.hid (fun wx (hb : Below w.heap.size w wx) => at_some (h.below hb) (S.hd p) (hd_ok hL hp).1 (hd_ix hL hp))
  have HC := Lib.hid (fun wx (hb : Below w.heap.size w wx) => at_some (h.below hb) (S.hd c) (hd_ok hL hc).1 (hd_ix hL hc))
  have HT := Lib.hid h
  have hbl : Below w.heap.size w (w.alloc (.cells #[.int .i64 0, .int .i64 0, .int .i64 0, .int .i64 0, .int .i64 0, .int .i64 0, .string ⟨#[]⟩, .string ⟨#[]⟩, .bool false, .int .i64 0, .int .i64 0] 152)) := (Below.refl _ _).alloc (Nat.le_refl _) _
  clear h
  go_enter Tryz.func115, Tryz.ntmps115
  go_wp2_with fail
  refine (HP.out _ hbl).mono ?_
  rintro e w2 ⟨rfl, hb2⟩
  have hB2 := hbl.trans (hb2.mono hbl.size)
  go_wp2_with fail
  refine (HC.out _ hB2).mono ?_
  rintro e w3 ⟨rfl, hb3⟩
  have hB3 := hB2.trans (hb3.mono hB2.size)
  have hT3 := HT.out.below hB3
  have c4 := nd_cell hT3 hc 4 (by omega)
  have c8 := nd_cell hT3 hc 8 (by omega)
  simp only [ndC, List.getElem?_cons_succ, List.getElem?_cons_zero] at c4 c8
  have z4 := nd_free hT3 (c * 10 + 1 + 4)
  have z8 := nd_free hT3 (c * 10 + 1 + 8)
  have HT3 := Lib.hid hT3
  clear hT3
  go_upto_region 4 with fail
  have hT4 := (HT3.out.setF (n' := { nc with parent := S.hd p }) hc 4 (.int .i64 (S.hd p)) (by omega) rfl rfl rfl).setF (i := c) (n := { nc with parent := S.hd p }) (n' := { nc with parent := S.hd p, next := S.hd b }) (by rw [at_put hc, if_pos rfl]) 8 (.int .i64 (S.hd b)) (by omega) rfl rfl rfl
  have hch4 : Chg (fun k => k = g) w3 ((w3.setCell ⟨g, c * 10 + 1 + 4, none⟩ (.int .i64 (S.hd p))).setCell ⟨g, c * 10 + 1 + 8, none⟩ (.int .i64 (S.hd b))) :=
    ((Chg.refl (fun k => k = g) w3).setCell ⟨g, c * 10 + 1 + 4, none⟩ (fun _ => (rfl : g = g)) _).setCell ⟨g, c * 10 + 1 + 8, none⟩ (fun _ => (rfl : g = g)) _
  obtain ⟨S4, hS4⟩ : ∃ S4, S4 = (S.put c { nc with parent := S.hd p }).put c { nc with parent := S.hd p, next := S.hd b } := ⟨_, rfl⟩
  rw [← hS4] at hT4
  have hat4 : ∀ x, x ≠ c → S4.at x = S.at x := fun x xc => by rw [hS4, at_put (by rw [at_put hc, if_pos rfl]), if_neg xc, at_put hc, if_neg xc]
  have hc4 : S4.at c = some { nc with parent := S.hd p, next := S.hd b } := by rw [hS4, at_put (by rw [at_put hc, if_pos rfl]), if_pos rfl]
  have hb4 : S4.at b = some nb := (hat4 b hbc).trans hb
  have hhd4 : ∀ x, S4.hd x = S.hd x := fun x => by rw [hS4]; rfl
  have z7 := nd_free hT4 (c * 10 + 1 + 7)
  have HT4 := Lib.hid hT4
  have HC4 := Lib.hid hch4
  clear hT4 hch4 HT3 c4 c8 z4 z8
  generalize (w3.setCell ⟨g, c * 10 + 1 + 4, none⟩ (.int .i64 (S.hd p))).setCell ⟨g, c * 10 + 1 + 8, none⟩ (.int .i64 (S.hd b)) = w4 at *
  have HQ4 := Lib.hid (at_some HT4.out (S.hd b) (hd_ok hL hb).1 (by rw [← hhd4]; exact ix_hd HT4.out.few (at_slot hb4)))
  go_wp2_with fail
  refine HQ4.out.mono ?_
  rintro e w4' ⟨rfl, hb4'⟩
  have hT4' := HT4.out.below hb4'
  have l7 := nd_cell hT4' hb4 7 (by omega)
  have l7c := nd_cell hT4' hc4 7 (by omega)
  simp only [ndC, List.getElem?_cons_succ, List.getElem?_cons_zero] at l7 l7c
  have z7' := nd_free hT4' (c * 10 + 1 + 7)
  have HT4' := Lib.hid hT4'
  clear hT4' z7
  go_upto_region 5 with fail
  have hT5 := HT4'.out.setF (n' := { nc with parent := S.hd p, next := S.hd b, prev := nb.prev }) hc4 7 (.int .i64 nb.prev) (by omega) rfl rfl rfl
  have hch5 : Chg (fun k => k = g) w4 (w4'.setCell ⟨g, c * 10 + 1 + 7, none⟩ (.int .i64 nb.prev)) := (Chg.of_below (F := fun k => k = g) hb4').setCell ⟨g, c * 10 + 1 + 7, none⟩ (fun _ => (rfl : g = g)) _
  obtain ⟨S5, hS5⟩ : ∃ S5, S5 = S4.put c { nc with parent := S.hd p, next := S.hd b, prev := nb.prev } := ⟨_, rfl⟩
  rw [← hS5] at hT5
  have hat5 : ∀ x, x ≠ c → S5.at x = S.at x := fun x xc => by rw [hS5, at_put hc4, if_neg xc]; exact hat4 x xc
  have hc5 : S5.at c = some { nc with parent := S.hd p, next := S.hd b, prev := nb.prev } := by rw [hS5, at_put hc4, if_pos rfl]
  have hb5 : S5.at b = some nb := (hat5 b hbc).trans hb
  have hhd5 : ∀ x, S5.hd x = S.hd x := fun x => by rw [hS5]; exact hhd4 x
  have HT5 := Lib.hid hT5
  have HC5 := Lib.hid hch5
  clear hT5 hch5 HT4 HT4' l7 l7c z7' HQ4
  generalize w4'.setCell ⟨g, c * 10 + 1 + 7, none⟩ (.int .i64 nb.prev) = w5 at *
  have HQ5 := Lib.hid (at_some HT5.out (S.hd b) (hd_ok hL hb).1 (by rw [← hhd5]; exact ix_hd HT5.out.few (at_slot hb5)))
  go_wp2_with fail
  refine HQ5.out.mono ?_
  rintro e w5' ⟨rfl, hb5'⟩
  have hT5' := HT5.out.below hb5'
  have m7 := nd_cell hT5' hb5 7 (by omega)
  simp only [ndC, List.getElem?_cons_succ, List.getElem?_cons_zero] at m7
  have y7 := nd_free hT5' (b * 10 + 1 + 7)
  have HT5' := Lib.hid hT5'
  clear hT5'
  go_upto_region 8 with fail
  have hT6 := HT5'.out.setF (n' := { nb with prev := S.hd c }) hb5 7 (.int .i64 (S.hd c)) (by omega) rfl rfl rfl
  have hch6 : Chg (fun k => k = g) w5 (w5'.setCell ⟨g, b * 10 + 1 + 7, none⟩ (.int .i64 (S.hd c))) := (Chg.of_below (F := fun k => k = g) hb5').setCell ⟨g, b * 10 + 1 + 7, none⟩ (fun _ => (rfl : g = g)) _
  obtain ⟨S6, hS6⟩ : ∃ S6, S6 = S5.put b { nb with prev := S.hd c } := ⟨_, rfl⟩
  rw [← hS6] at hT6
  have hat6 : ∀ x, x ≠ c → x ≠ b → S6.at x = S.at x := fun x xc xb => by rw [hS6, at_put hb5, if_neg xb]; exact hat5 x xc
  have hp6 : S6.at p = some np := (hat6 p hpc (fun e => hbp e.symm)).trans hp
  have hb6 : S6.at b = some { nb with prev := S.hd c } := by rw [hS6, at_put hb5, if_pos rfl]
  have hc6 : S6.at c = some { nc with parent := S.hd p, next := S.hd b, prev := nb.prev } := by rw [hS6, at_put hb5, if_neg (fun e => hbc e.symm)]; exact hc5
  have hhd6 : ∀ x, S6.hd x = S.hd x := fun x => by rw [hS6]; exact hhd5 x
  have hsm6 : S6.slots.length = S.slots.length ∧ S6.b = S.b ∧ S6.s = S.s ∧ S6.free = S.free ∧ S6.root = S.root := by
    rw [hS6, hS5, hS4]; exact ⟨by rw [put_len, put_len, put_len, put_len], rfl, rfl, rfl, rfl⟩
  have o7 := nd_cell hT6 hc6 7 (by omega)
  have o5 := nd_cell hT6 hp6 5 (by omega)
  simp only [ndC, List.getElem?_cons_succ, List.getElem?_cons_zero] at o7 o5
  have x5 := nd_free hT6 (p * 10 + 1 + 5)
  have HT6 := Lib.hid hT6
  have HC6 := Lib.hid hch6
  clear hT6 hch6 HT5 HT5' HQ5 m7 y7
  generalize w5'.setCell ⟨g, b * 10 + 1 + 7, none⟩ (.int .i64 (S.hd c)) = w6 at *
  have hlast := HPr.out
  cases hq : pv (K p) j
  case' none =>
    rw [hq, show hO S none = 0 from rfl] at hlast
    rw [hlast] at o7
    have hj0 : j = 0 := by
      unfold pv at hq
      split at hq
      · assumption
      · rename_i e
        rw [List.getElem?_eq_none_iff] at hq
        omega
    go_upto_region 11 with fail
    have hT7 := HT6.out.setF (n' := { np with first := S.hd c }) hp6 5 (.int .i64 (S.hd c)) (by omega) rfl rfl rfl
    have hch7 : Chg (fun k => k = g) w6 (w6.setCell ⟨g, p * 10 + 1 + 5, none⟩ (.int .i64 (S.hd c))) := (Chg.refl (fun k => k = g) w6).setCell ⟨g, p * 10 + 1 + 5, none⟩ (fun _ => (rfl : g = g)) _
    obtain ⟨S7, hS7⟩ : ∃ S7, S7 = S6.put p { np with first := S.hd c } := ⟨_, rfl⟩
    rw [← hS7] at hT7
    have hlk : Linked S S7 (K p) p j c := by
      refine ⟨fun x => ?_, by rw [hS7, put_len]; exact hsm6.1, by rw [hS7]; exact hsm6.2.1, by rw [hS7]; exact hsm6.2.2.1, by rw [hS7]; exact hsm6.2.2.2.1, by rw [hS7]; exact hsm6.2.2.2.2⟩
      rw [hS7, at_put hp6]
      by_cases xp : x = p
      · subst xp
        rw [if_pos rfl, hp]
        have e2 : ¬ (K x)[j]? = some x := fun e => hL.self (List.mem_of_getElem? e)
        simp only [Option.map_some, linkN, if_neg hpc, hq, if_neg e2, reduceCtorEq, if_false, true_and, if_pos hj0, if_neg (Nat.ne_of_lt hjl)]
      · rw [if_neg xp]
        by_cases xb : x = b
        · subst xb
          rw [hb6, hb]
          simp only [Option.map_some, linkN, if_neg hbc, hq, if_pos hj, reduceCtorEq, if_false, xp, false_and]
        · by_cases xc : x = c
          · subst xc
            rw [hc6, hc]
            simp only [Option.map_some, linkN, if_pos, hq, hj, xp, false_and, if_false, hO, hlast]
          · rw [hat6 x xc xb]
            cases S.at x with
            | none => rfl
            | some n =>
              have e3 : ¬ (K p)[j]? = some x := fun e => xb (by rw [hj] at e; cases e; rfl)
              simp only [Option.map_some, linkN, if_neg xc, hq, if_neg e3, reduceCtorEq, if_false, xp, false_and]
    have hl7 := hL' S7 hlk
    have hc7 : S7.at c = some { nc with parent := S.hd p, next := S.hd b, prev := nb.prev } := by rw [hS7, at_put hp6, if_neg (fun e => hpc e.symm)]; exact hc6
    have HT7 := Lib.hid hT7
    have HC7 := Lib.hid hch7
    clear hT7 hch7 HT6 o7 o5 x5 hj0
    generalize w6.setCell ⟨g, p * 10 + 1 + 5, none⟩ (.int .i64 (S.hd c)) = w7 at *
  case' some q =>
    rw [hq, show hO S (some q) = S.hd q from rfl] at hlast
    rw [hlast] at o7
    have hj0 : j ≠ 0 := fun e => by rw [e] at hq; simp [pv] at hq
    have hq' := hq
    unfold pv at hq'
    rw [if_neg hj0] at hq'
    have hqm : q ∈ K p := List.mem_of_getElem? hq'
    have hqc : q ≠ c := fun e => hdet p (e ▸ hqm)
    have hqp : q ≠ p := fun e => hL.self (e ▸ hqm : p ∈ K p)
    have hqb : q ≠ b := fun e => by have := hL.inj (e ▸ hq') hj; omega
    obtain ⟨nq, hnq⟩ := Option.isSome_iff_exists.1 (hL.kin p q hqm).2
    have hq6 : S6.at q = some nq := (hat6 q hqc hqb).trans hnq
    have hne : ¬ S.hd q = 0 := by have := (hd_ok hL hnq).2; omega
    have hne2 : (S.hd q == 0) = false := by simpa using hne
    have HQ := Lib.hid (at_some HT6.out (S.hd q) (hd_ok hL hnq).1 (by rw [← hhd6]; exact ix_hd HT6.out.few (at_slot hq6)))
    go_wp2_with fail
    refine HQ.out.mono ?_
    rintro e w6' ⟨rfl, hb6'⟩
    have hT6' := HT6.out.below hb6'
    have r8 := nd_cell hT6' hq6 8 (by omega)
    simp only [ndC, List.getElem?_cons_succ, List.getElem?_cons_zero] at r8
    have y8 := nd_free hT6' (q * 10 + 1 + 8)
    have HT6' := Lib.hid hT6'
    clear hT6'
    go_upto_region 11 with fail
    have hT7 := HT6'.out.setF (n' := { nq with next := S.hd c }) hq6 8 (.int .i64 (S.hd c)) (by omega) rfl rfl rfl
    have hch7 : Chg (fun k => k = g) w6 (w6'.setCell ⟨g, q * 10 + 1 + 8, none⟩ (.int .i64 (S.hd c))) := (Chg.of_below (F := fun k => k = g) hb6').setCell ⟨g, q * 10 + 1 + 8, none⟩ (fun _ => (rfl : g = g)) _
    obtain ⟨S7, hS7⟩ : ∃ S7, S7 = S6.put q { nq with next := S.hd c } := ⟨_, rfl⟩
    rw [← hS7] at hT7
    have hlk : Linked S S7 (K p) p j c := by
      refine ⟨fun x => ?_, by rw [hS7, put_len]; exact hsm6.1, by rw [hS7]; exact hsm6.2.1, by rw [hS7]; exact hsm6.2.2.1, by rw [hS7]; exact hsm6.2.2.2.1, by rw [hS7]; exact hsm6.2.2.2.2⟩
      rw [hS7, at_put hq6]
      by_cases xq : x = q
      · subst xq
        rw [if_pos rfl, hnq]
        have e3 : ¬ (K p)[j]? = some x := fun e => hqb (by rw [hj] at e; cases e; rfl)
        simp only [Option.map_some, linkN, if_neg hqc, hq, if_neg e3, if_pos, hqp, false_and, if_false]
      · have xq2 : ¬ q = x := fun e => xq e.symm
        rw [if_neg xq]
        have e4 : ¬ (some q : Option Nat) = some x := fun e => xq2 (Option.some.inj e)
        by_cases xp : x = p
        · subst xp
          rw [hp6, hp]
          have e2 : ¬ (K x)[j]? = some x := fun e => hL.self (List.mem_of_getElem? e)
          simp only [Option.map_some, linkN, if_neg hpc, hq, if_neg e2, if_neg e4, true_and, if_neg hj0, if_neg (Nat.ne_of_lt hjl)]
        · by_cases xb : x = b
          · subst xb
            rw [hb6, hb]
            simp only [Option.map_some, linkN, if_neg hbc, hq, if_pos hj, if_neg e4, xp, false_and, if_false]
          · by_cases xc : x = c
            · subst xc
              rw [hc6, hc]
              simp only [Option.map_some, linkN, if_pos, hq, hj, xp, false_and, if_false, hO, hlast]
            · rw [hat6 x xc xb]
              cases S.at x with
              | none => rfl
              | some n =>
                have e3 : ¬ (K p)[j]? = some x := fun e => xb (by rw [hj] at e; cases e; rfl)
                simp only [Option.map_some, linkN, if_neg xc, hq, if_neg e3, if_neg e4, xp, false_and, if_false]
    have hl7 := hL' S7 hlk
    have hc7 : S7.at c = some { nc with parent := S.hd p, next := S.hd b, prev := nb.prev } := by rw [hS7, at_put hq6, if_neg (fun e => hqc e.symm)]; exact hc6
    have HT7 := Lib.hid hT7
    have HC7 := Lib.hid hch7
    clear hT7 hch7 HT6 HT6' o7 o5 x5 r8 y8 HQ hne hne2 hq' hqm hqc hqp hqb hj0
    generalize w6'.setCell ⟨g, q * 10 + 1 + 8, none⟩ (.int .i64 (S.hd c)) = w7 at *
  all_goals
    clear hq hlast
    clear hb0 hb1
    have HR := Lib.hid (show Blk w7 w.heap.size (recC 0 0 0 0 0 0 [] [] false 0 0) 152 from by
      have g0 : ¬ w.heap.size = g := by have := (HT.out.slots.lt g rfl).2; omega
      have k0 := Blk.new w (recC 0 0 0 0 0 0 [] [] false 0 0) 152
      exact ((((((k0.below hb2).below hb3).chg HC4.out g0).chg HC5.out g0).chg HC6.out g0).chg HC7.out g0))
    have HI := Lib.hid (fun wx (hb : Below w7.heap.size w7 wx) => index_kid (HT7.out.below hb) hl7 p j c (by unfold linkK; rw [if_pos rfl, ins_at _ _ _ _ (Nat.le_of_lt hjl), if_neg (by omega), if_pos rfl]))
    rw [hlk.hd] at HI
    have c7 := nd_cell HT7.out hc7 7 (by omega)
    simp only [ndC, List.getElem?_cons_succ, List.getElem?_cons_zero] at c7
    have g7 := (HT7.out.slots.lt g rfl).2
    have hne := stb_ne w7
    have x7 : ∀ x : InS (StB w7), x.w.cell? ⟨g, c * 10 + 1 + 7, none⟩ = some (.int .i64 nb.prev) := fun x => ((bcell x.h).1 _ _ g7).trans c7
    refine reg_b (.int .i64 (j : Int) |> fun v _ => v) 11 (by kernel_rfl) (by kernel_rfl) ?_
    simp only [List.take_succ_cons, List.take_zero, List.drop_succ_cons, List.drop_zero]
    repeat (first
      | (refine m_held (by rfl) (by rfl) (fun K hK => ?_); go_big_quiet_step (fail); refine wpQuiet_nil ?_; refine hK.out _ ?_; clear hK K)
      | (refine m_skip (by rfl) ?_; simp only [Act.put, List.setIfInBounds_toArray, List.set_cons_zero, List.set_cons_succ]))
    refine m_call (.int .i64 (j : Int)) rfl (by rfl) (by rfl) (fun w => by go_simp; exact ⟨rfl, rfl⟩) ?_ ?_
    · intro X w2 h2
      refine (HI.out _ h2).mono ?_
      rintro e w3 ⟨rfl, hb⟩
      exact ⟨rfl, RowKit.Below.trans h2 (hb.mono h2.size)⟩
    simp only [Act.put, List.setIfInBounds_toArray, List.set_cons_zero, List.set_cons_succ]
    repeat (first
      | (refine m_held (by rfl) (by rfl) (fun K hK => ?_); go_big_quiet_step (fail); refine wpQuiet_nil ?_; refine hK.out _ ?_; clear hK K)
      | (refine m_skip (by rfl) ?_; simp only [Act.put, List.setIfInBounds_toArray, List.set_cons_zero, List.set_cons_succ]))
    refine m_nil ?_
    intro w8 h8
    have k8 := HR.out.below h8
    obtain ⟨⟨q0, q1, q2, q3, q4, q5, q6, q7, q8, q9, q10⟩, zf⟩ := rec_cells k8
    clear HI hne x7
    go_wp2_with fail
    (try simp only [Exit.inBlock, Exit.then])
    have k9 := rec_set k8 1 (S.hd p) (S.hd c) nb.prev (S.hd b) (j : Int) ⟨#[]⟩ ⟨#[]⟩ false 0 0
    refine bodyPost_ret (v := .agg (recC 1 (S.hd p) (S.hd c) nb.prev (S.hd b) j [] [] false 0 0).toArray) (results_cell_row Tryz.results115 _ _ w.heap.size 152 _ (0, 0) _ ?_ k9 Tryz.underlying152 rfl infoRec) rfl ?_
    · rfl
    have HRC : ∀ {wf}, Chg (fun k => k = w.heap.size) w8 wf → TAt B R S7 (.slice (some ⟨g, 0, none⟩) S7.slots.length cap) fv wf ∧ Chg (fun k => k = g) w wf := fun {wf} hc => by
      refine ⟨(HT7.out.below h8).recd k8 hc, ?_⟩
      have e3 : Chg (fun k => k = g) w w3 := Chg.of_below hB3
      have e8 : Chg (fun k => k = g) w w8 := ((((e3.trans HC4.out (fun _ _ h => h)).trans HC5.out (fun _ _ h => h)).trans HC6.out (fun _ _ h => h)).trans HC7.out (fun _ _ h => h)).trans (Chg.of_below (F := fun k => k = g) h8) (fun _ _ h => h)
      exact e8.trans hc (fun i hi e => by omega)
    exact ⟨S7, hlk, rfl, HRC (rec_chg w8 w.heap.size _ _ _ _ _ _ _ _ _ _ _)⟩
end Go.Proofs.YtacdbnhnhdlmpaaGreatDoor.W
end
section
namespace Go.Proofs.YtacdbnhnhdlmpaaGreatDoor.W
end Go.Proofs.YtacdbnhnhdlmpaaGreatDoor.W
end
section
namespace Go.Proofs.YtacdbnhnhdlmpaaGreatDoor.W
open Go
def Tr.snoc (S : Tr) (n : Nd) : Tr := { S with slots := S.slots ++ [some n] }
theorem at_none_ge {S : Tr} {i : Nat} (h : S.slots.length ≤ i) : S.at i = none := by unfold Tr.at; rw [List.getElem?_eq_none h]; rfl
theorem at_snoc (S : Tr) (n : Nd) (x : Nat) : (S.snoc n).at x = if x = S.slots.length then some n else S.at x := by
  unfold Tr.at Tr.snoc
  simp only []
  by_cases h : x = S.slots.length
  · subst h; simp
  · rw [if_neg h]
    by_cases h2 : x < S.slots.length
    · rw [List.getElem?_append_left h2]
    · rw [List.getElem?_eq_none (by rw [List.length_append, List.length_singleton]; omega), List.getElem?_eq_none (by omega)]
theorem live_snoc (S : Tr) (n : Nd) : (S.snoc n).live = S.live + 1 := by unfold Tr.live Tr.snoc; simp
theorem snoc_len (S : Tr) (n : Nd) : (S.snoc n).slots.length = S.slots.length + 1 := by unfold Tr.snoc; simp
theorem Lk.no_kids {S K d} (h : Lk S K d) {i : Nat} (hi : S.at i = none) : K i = [] := by
  cases e : K i with
  | nil => rfl
  | cons k t => have := (h.kin i k (by rw [e]; simp)).1; rw [hi] at this; cases this
theorem Lk.no_par {S K d} (h : Lk S K d) {i : Nat} (hi : S.at i = none) (p : Nat) : i ∉ K p := fun hk => by
  have := (h.kin p i hk).2; rw [hi] at this; cases this
theorem hgt_leaf {K : Nat → List Nat} {c : Nat} (h : K c = []) : ∀ f, hgt K f c = 1
  | 0 => rfl
  | f + 1 => by unfold hgt; rw [h]; rfl
def newN (k : Int) (name : List UInt8) : Nd := ⟨k, name, .slice none 0 0, [], [], 0, 0, 0, 0, 0⟩
theorem start_lk (b s : Int) : Lk ⟨b, s, [some (newN 1 [])], [], hdl b s 0⟩ (fun _ => []) (fun _ => 1) := by
  have hat : ∀ i n, (⟨b, s, [some (newN 1 [])], [], hdl b s 0⟩ : Tr).at i = some n → n = newN 1 [] := fun i n hi => by
    cases i with
    | zero => cases hi; rfl
    | succ i => simp [Tr.at] at hi
  refine ⟨fun p k hk => (by simp at hk), fun i n hi => ?_, fun p j k n hk _ => (by simp at hk), fun i n hi _ => ?_, fun p => List.nodup_nil, fun p k hk => (by simp at hk), fun _ _ _ => rfl, fun _ => by omega, by simp⟩
  · rw [hat i n hi]; exact ⟨rfl, rfl⟩
  · rw [hat i n hi]; exact ⟨rfl, rfl, rfl⟩
end Go.Proofs.YtacdbnhnhdlmpaaGreatDoor.W
end
section
namespace Go.Proofs.YtacdbnhnhdlmpaaGreatDoor.W
open Go.RowKit
theorem etS : ET Tryz.prog 107 182 10 112 := ET.mk' (z := .agg #[.bool false, .int .i64 0, .string ⟨#[]⟩, .slice none 0 0, .string ⟨#[]⟩, .int .i64 0, .int .i64 0, .int .i64 0, .int .i64 0, .int .i64 0]) Tryz.underlying107 (by kernel_rfl) rfl (by omega)
theorem step_append_B {P : Program} {t e : TypeId} {size bytes : Nat} (hT : ET P t e size bytes) {B : Nat} {w : World} {dv : Value} {n : Nat} {xs : List Value} (hown : w.ownsRow B e size dv n xs) (hB : B ≤ w.heap.size)
    {g m cap : Nat} {ys : List Value} (hs : Own w e size (.slice (some ⟨g, 0, none⟩) m cap) m ys) (h1 : ∀ u ∈ ys, u.oneCell' = true) (hlen : n + m ≤ 1000000000) (hby : bytes ≤ 1000)
    {ops : Array Oper} {E : Prop} {o : Oper} {a : Act} {K : Act → World → Prop} {Q : Exit → Act → World → Prop} (hgd : o.guard = none) (s x : Operand) (ho : o.op = .call { callee := .builtin .append, args := #[s, x], argTypes := #[t, t] }) (hd : a.eval s = dv) (hx : a.eval x = .slice (some ⟨g, 0, none⟩) m cap)
    (hc : ∀ v' w', w'.ownsRow B e size v' (n + m) (xs ++ ys) → w.grownBy w' dv.ownBlock → (v'.ownBlock = dv.ownBlock ∨ v'.ownBlock = some w.heap.size) → K (a.put o.dst v') w') : if Region.wanted o (yielded ops a.tmps) = true then Oper.wp P o a w K Q else E := by
  have hw : Region.wanted o (yielded ops a.tmps) = true := by simp [Region.wanted, hgd]
  rw [if_pos hw]
  obtain ⟨i, z, hi, hz0, hz1, hz2, hz3⟩ := hT.info
  have hmul : (n + m) * bytes ≤ 1000000000 * 1000 := Nat.mul_le_mul hlen hby
  obtain ⟨v', w', hr, h2, h3, _, h5⟩ := run_append_own_at (P := P) w B t o.type e i z size bytes hT.under hi hz0 hz1 hz2 hz3 hT.pos dv n xs hown ⟨g, 0, none⟩ m cap ys hs.1 (own_news hs) h1 (by unfold maxLen; omega) (by omega) hB
  unfold Oper.wp execOp
  simp only [ho, resolve, invoke, builtin, Sem.run_bind, Sem.run_pure, Result.andThen_ok, List.map_toArray, List.map_cons, List.map_nil, hd, hx, hr]
  exact hc v' w' h2 h3 h5
theorem rowC_snoc (l : List (Option Nd)) (n : Nd) : rowC (l ++ [some n]) = rowC l ++ slotC (some n) := by unfold rowC; simp
theorem TAt.snoc {B R : Nat} {S : Tr} {sv sv' fv : Value} {w w' : World} {n : Nd} (h : TAt B R S sv fv w) (hn : AttrAt B w n.av n.attrs) (hl : S.slots.length < 1000000) (k : Chg (fun k => k = R ∨ sv.ownBlock = some k) w w')
    (hs : w'.ownsRow B 182 10 sv' (S.slots.length + 1) (rowC S.slots ++ slotC (some n)))
    (hb : Blk w' R [.int .i64 S.b, .int .i64 S.s, sv', fv, .int .i64 (S.live + 1 : Nat), .int .i64 S.root] 111) : TAt B R (S.snoc n) sv' fv w' := by
  have hnsv : ∀ {g : Nat} {cs : Array Value} {t : TypeId}, w.heap[g]? = some (.cells cs t (0, 0)) → t ≠ 182 → t ≠ 111 → w'.heap[g]? = w.heap[g]? := fun {g cs t} hg h1 h2 => by
    refine k.block g (lt_of_block hg) ?_
    rintro (rfl | e)
    · exact blk_ne hg h.blk h2 rfl
    · rcases h.slots.2 with ⟨e2, _⟩ | ⟨g', cap', cur', e1, e2, e3, rest⟩
      · rw [e2] at e; cases e
      · rw [e1] at e
        cases e
        exact blk_ne hg e3 h1 rfl
  refine ⟨?_, ?_, ?_, ?_, h.base, ?_⟩
  · rw [live_snoc]; exact hb
  · rw [show (S.snoc n).slots = S.slots ++ [some n] from rfl, rowC_snoc, List.length_append, List.length_singleton]; exact hs
  · obtain ⟨h1, h2⟩ := h.free
    exact ⟨h1, h2.imp id fun ⟨g', cap', cur', e1, e2, e3, rest⟩ => ⟨g', cap', cur', e1, e2, (hnsv e3 (by decide) (by decide)).trans e3, rest⟩⟩
  · intro i m hi
    have hold : AttrAt B w m.av m.attrs := by
      have hi' : (S.snoc n).at i = some m := at_of hi
      rw [at_snoc] at hi'
      by_cases e : i = S.slots.length
      · rw [if_pos e] at hi'; cases hi'; exact hn
      · rw [if_neg e] at hi'; exact h.attrs i m (at_slot hi')
    obtain ⟨a, cp, e, hx⟩ := hold
    exact ⟨a, cp, e, hx.imp id fun ⟨g', cur', e1, e2, e3, e4⟩ => ⟨g', cur', e1, e2, (hnsv e3 (by decide) (by decide)).trans e3, e4⟩⟩
  · rw [snoc_len]; omega
theorem TAt.slots_ne {B R : Nat} {S : Tr} {sv fv : Value} {w : World} (h : TAt B R S sv fv w) : sv.ownBlock ≠ some R := by
  rcases h.slots.2 with ⟨e2, _⟩ | ⟨g', cap', cur', e1, e2, e3, rest⟩
  · rw [e2]; intro e; cases e
  · rw [e1]
    intro e
    cases e
    exact blk_ne e3 h.blk (by decide) rfl
theorem slot_one {B : Nat} {w : World} {n : Nd} (hn : AttrAt B w n.av n.attrs) : ∀ u ∈ slotC (some n), u.oneCell' = true := by
  obtain ⟨a, cp, e, _⟩ := hn
  intro u hu
  simp only [slotC, ndC, List.mem_cons, List.not_mem_nil, or_false] at hu
  rcases hu with rfl | rfl | rfl | rfl | rfl | rfl | rfl | rfl | rfl | rfl
  all_goals first | rfl | (rw [e]; rfl)
theorem own_kB {w w' : World} {B e sz n : Nat} {v : Value} {xs : List Value} (h : w.ownsRow B e sz v n xs) (k : ∀ g, v.ownBlock = some g → w'.heap[g]? = w.heap[g]?) : w'.ownsRow B e sz v n xs := by
  refine ⟨h.1, h.2.imp id ?_⟩
  rintro ⟨g', cap', cur', e1, e2, e3, rest⟩
  exact ⟨g', cap', cur', e1, e2, (k g' (by rw [e1]; rfl)).trans e3, rest⟩
theorem own_ty {w : World} {B e sz n g : Nat} {v : Value} {xs : List Value} (h : w.ownsRow B e sz v n xs) (hg : v.ownBlock = some g) : ∃ cur, w.heap[g]? = some (.cells cur e (0, 0)) := by
  rcases h.2 with ⟨e2, _⟩ | ⟨g', cap', cur', e1, e2, e3, rest⟩
  · rw [e2] at hg; cases hg
  · rw [e1] at hg; cases hg; exact ⟨cur', e3⟩
set_option maxRecDepth 100000 in
set_option maxHeartbeats 4000000 in
theorem add_new {B R : Nat} {S : Tr} {sv fv : Value} {w : World} (h : TAt B R S sv fv w) (hf : S.free = []) (hl : S.slots.length < 1000000) (n : Nd) (hn : AttrAt B w n.av n.attrs) :
    Calls Tryz.prog 106 #[.pointer (some ⟨R, 0, none⟩), .agg #[.int .i64 n.kind, .string ⟨n.name.toArray⟩, n.av, .string ⟨n.data.toArray⟩, .int .i64 n.parent, .int .i64 n.first, .int .i64 n.last, .int .i64 n.prev, .int .i64 n.next]] w fun e w' => ∃ sv', e = .returned (.int .i64 (S.hd S.slots.length)) ∧
      TAt B R (S.snoc n) sv' fv w' ∧ Chg (fun k => k = R ∨ sv.ownBlock = some k) w w' ∧ (sv'.ownBlock = sv.ownBlock ∨ ∃ k, sv'.ownBlock = some k ∧ w.heap.size ≤ k) := by
  have c0 := h.blk.cell 0
  have c1 := h.blk.cell 1
  have c2 := h.blk.cell 2
  have c3 := h.blk.cell 3
  have c4 := h.blk.cell 4
  have hlt := h.blk.lt
  simp only [List.getElem?_cons_succ, List.getElem?_cons_zero] at c0 c1 c2 c3 c4
  obtain ⟨a0, cap0, rfl⟩ := slots_shape h
  obtain ⟨fa, fcap, rfl⟩ := own_shapeB h.free
  rw [hf, List.length_nil] at c3
  have hBw : B ≤ w.heap.size := Nat.le_trans h.base (Nat.le_of_lt hlt)
  have hlv : S.live ≤ S.slots.length := List.length_filter_le _ _
  have H1 := Lib.hid (slot_one hn)
  obtain ⟨av, acap, hav, _⟩ := id hn
  have HT := Lib.hid h
  have HN := Lib.hid hn
  have hB1 := (Below.refl w.heap.size w).alloc (Nat.le_refl _) (.cells #[.int .i64 n.kind, .string ⟨n.name.toArray⟩, n.av, .string ⟨n.data.toArray⟩, .int .i64 n.parent, .int .i64 n.first, .int .i64 n.last, .int .i64 n.prev, .int .i64 n.next] 135)
  have hbx := Blk.new w [.int .i64 n.kind, .string ⟨n.name.toArray⟩, n.av, .string ⟨n.data.toArray⟩, .int .i64 n.parent, .int .i64 n.first, .int .i64 n.last, .int .i64 n.prev, .int .i64 n.next] 135
  have nb : R ≠ w.heap.size := by omega
  have nb2 : w.heap.size ≠ R := by omega
  rw [hav] at hB1 hbx ⊢
  clear hn h
  go_enter Tryz.func106, Tryz.ntmps106
  go_wp2_with fail
  have hB1' := Lib.hid hB1
  have HX := Lib.hid hbx
  have e0 := cell_keep hB1 c0
  have e1 := cell_keep hB1 c1
  have e2 := cell_keep hB1 c2
  have e4 := cell_keep hB1 c4
  have y0 := hbx.cell 0
  have y1 := hbx.cell 1
  have y2 := hbx.cell 2
  have y3 := hbx.cell 3
  have y4 := hbx.cell 4
  have y5 := hbx.cell 5
  have y6 := hbx.cell 6
  have y7 := hbx.cell 7
  have y8 := hbx.cell 8
  simp only [List.getElem?_cons_succ, List.getElem?_cons_zero] at y0 y1 y2 y3 y4 y5 y6 y7 y8
  have HT1 := Lib.hid (HT.out.below hB1)
  have hgW := Nat.lt_of_lt_of_le hlt hB1.size
  have hbW := Nat.le_trans hBw hB1.size
  clear hB1 hbx c0 c1 c2 c4
  generalize hW : w.alloc (.cells #[.int .i64 n.kind, .string ⟨n.name.toArray⟩, .slice av n.attrs.length acap, .string ⟨n.data.toArray⟩, .int .i64 n.parent, .int .i64 n.first, .int .i64 n.last, .int .i64 n.prev, .int .i64 n.next] 135) = W at *
  have hBd : Below W.heap.size W (W.drew.alloc (.cells #[.bool true, .int .i64 n.kind, .string ⟨n.name.toArray⟩, .slice av n.attrs.length acap, .string ⟨n.data.toArray⟩, .int .i64 n.parent, .int .i64 n.first, .int .i64 n.last, .int .i64 n.prev, .int .i64 n.next] 182)) := ((Below.refl W.heap.size W).drew).alloc (Nat.le_refl _) _
  have HO := Lib.hid (own_keepB HT1.out.slots hBd)
  have HS := Lib.hid (own_at (n := 1) (size := 10) (Blk.new W.drew [.bool true, .int .i64 n.kind, .string ⟨n.name.toArray⟩, .slice av n.attrs.length acap, .string ⟨n.data.toArray⟩, .int .i64 n.parent, .int .i64 n.first, .int .i64 n.last, .int .i64 n.prev, .int .i64 n.next] 182) rfl (by omega))
  have HB := Lib.hid hBd
  have HR := Lib.hid (HT1.out.blk.below hBd)
  have H2 := Lib.hid (show ∀ u ∈ ([.bool true, .int .i64 n.kind, .string ⟨n.name.toArray⟩, .slice av n.attrs.length acap, .string ⟨n.data.toArray⟩, .int .i64 n.parent, .int .i64 n.first, .int .i64 n.last, .int .i64 n.prev, .int .i64 n.next] : List Value), u.oneCell' = true by have := H1.out; simp only [slotC, ndC, hav, strV] at this; exact this)
  have HNE := Lib.hid HT1.out.slots_ne
  clear hBd
  go_region_law (first
      | (refine step_append_B etS HO.out (by have := HB.out.size; omega) HS.out H2.out (by omega) (by omega) (by rfl) _ _ (by rfl) (by rfl) (by rfl) ?_; intro v' w1 ho hgr hvb;
          obtain ⟨va, vc, rfl⟩ := own_shapeB ho; have b1 := HR.out.kept (hgr.block R HR.out.lt (fun e => HNE.out e.symm)); have d0 := b1.cell 0; have d1 := b1.cell 1; have d2 := b1.cell 2; have d4 := b1.cell 4; have df := b1.free;
          simp only [List.getElem?_cons_succ, List.getElem?_cons_zero] at d0 d1 d2 d4; have kb := Lib.hid b1; have ks := Lib.hid ho; have kg := Lib.hid hgr; have kv := Lib.hid hvb; clear ho hgr hvb b1))
  all_goals
    go_wp2_with fail
    refine (handle_any S.b S.s (S.slots.length : Nat) _).mono ?_
    rintro e w2 ⟨rfl, hb2⟩
    go_wp2_with fail
    go_ret
    have hbl := kb.out
    have hk1 : Chg (fun k => k = R ∨ (Value.slice a0 S.slots.length cap0).ownBlock = some k) w w1 := ((Chg.of_below hB1'.out).trans (Chg.of_below HB.out) (fun _ _ h => h)).grown kg.out (fun k e _ => .inr e)
    refine ⟨.slice va (S.slots.length + 1) vc, rfl, HT.out.snoc HN.out hl (((hk1.setCell ⟨R, 2, none⟩ (fun _ => .inl rfl) _).setCell ⟨R, 4, none⟩ (fun _ => .inl rfl) _).trans (Chg.of_below hb2) (fun _ _ h => h)) ?_ ?_, (((hk1.setCell ⟨R, 2, none⟩ (fun _ => .inl rfl) _).setCell ⟨R, 4, none⟩ (fun _ => .inl rfl) _).trans (Chg.of_below hb2) (fun _ _ h => h)), ?_⟩
    · have hsl : slotC (some n) = ([.bool true, .int .i64 n.kind, .string ⟨n.name.toArray⟩, .slice av n.attrs.length acap, .string ⟨n.data.toArray⟩, .int .i64 n.parent, .int .i64 n.first, .int .i64 n.last, .int .i64 n.prev, .int .i64 n.next] : List Value) := by simp only [slotC, ndC, hav, strV]
      rw [hsl]
      refine own_kB ks.out (fun g hg => ?_)
      obtain ⟨cur, hcur⟩ := own_ty ks.out hg
      have hne : R ≠ g := fun e => blk_ne hcur hbl (by decide) e.symm
      have hg1 := lt_of_block hcur
      refine (hb2.block g (by simpa using hg1)).trans ?_
      exact (Below.heap_setCell _ _ _ _ (fun e => hne e.symm)).trans (Below.heap_setCell _ _ _ _ (fun e => hne e.symm))
    · have := ((hbl.set 2 (.slice va (S.slots.length + 1) vc)).set 4 (.int .i64 ((S.live : Int) + 1))).below hb2
      exact this
    · rcases kv.out with e | e
      · exact .inl e
      · exact .inr ⟨_, e, by have h1 := hB1'.out.size; have h2 := HB.out.size; omega⟩
theorem etR : ET Tryz.prog 75 152 11 104 := ET.mk' (z := .agg #[.int .i64 0, .int .i64 0, .int .i64 0, .int .i64 0, .int .i64 0, .int .i64 0, .string ⟨#[]⟩, .string ⟨#[]⟩, .bool false, .int .i64 0, .int .i64 0]) Tryz.underlying75 (by kernel_rfl) rfl (by omega)
theorem wpList_append_B {P : Program} {t e : TypeId} {size bytes : Nat} (hT : ET P t e size bytes) {B : Nat} {w : World} {dv : Value} {n : Nat} {xs : List Value} (hown : w.ownsRow B e size dv n xs) (hB : B ≤ w.heap.size)
    {g m cap : Nat} {ys : List Value} (hs : Own w e size (.slice (some ⟨g, 0, none⟩) m cap) m ys) (h1 : ∀ u ∈ ys, u.oneCell' = true) (hlen : n + m ≤ 1000000000) (hby : bytes ≤ 1000)
    {ops : Array Oper} {rest : List Oper} {o : Oper} {a : Act} {Q : Exit → Act → World → Prop} (hgd : o.guard = none) (s x : Operand) (ho : o.op = .call { callee := .builtin .append, args := #[s, x], argTypes := #[t, t] }) (hd : a.eval s = dv) (hx : a.eval x = .slice (some ⟨g, 0, none⟩) m cap)
    (hc : ∀ v' w', w'.ownsRow B e size v' (n + m) (xs ++ ys) → w.grownBy w' dv.ownBlock → (v'.ownBlock = dv.ownBlock ∨ v'.ownBlock = some w.heap.size) → wpList P ops Q rest (a.put o.dst v') w') : wpList P ops Q (o :: rest) a w := by
  refine wpList_plain hgd fun K hK => ?_
  have := step_append_B (P := P) hT hown hB hs h1 hlen hby (ops := ops) (E := False) (o := o) (a := a) (K := K) (Q := Q) hgd s x ho hd hx (fun v' w' h1 h2 h3 => hK _ _ (hc v' w' h1 h2 h3))
  have hw : Region.wanted o (yielded ops a.tmps) = true := by simp [Region.wanted, hgd]
  rwa [if_pos hw] at this
abbrev RcAt (w : World) (B : Nat) (v : Value) (l : List (List Value)) : Prop := w.ownsRow B 152 11 v l.length l.flatten
set_option maxRecDepth 100000 in
set_option maxHeartbeats 4000000 in
theorem insert_deep {B R g cap : Nat} {S : Tr} {fv : Value} {w : World} {K : Nat → List Nat} {d : Nat → Nat} (h : TAt B R S (.slice (some ⟨g, 0, none⟩) S.slots.length cap) fv w) (hL : Lk S K d) (p c : Nat) (np nc : Nd) (hp : S.at p = some np) (hc : S.at c = some nc)
    (hmay : mayB S K d p c np nc = true) (hdep : 128 < d p + hgt K (128 - d c) c) :
    Calls Tryz.prog 57 #[.pointer (some ⟨R, 0, none⟩), .int .i64 (S.hd p), .int .i64 (S.hd c), .int .i64 0] w fun e w' => e = .returned (.tuple #[.slice none 0 0, .int .i64 5]) ∧ Below w.heap.size w w' := by
  have HP := Lib.hid (fun wx (hb : Below w.heap.size w wx) => at_some (h.below hb) (S.hd p) (hd_ok hL hp).1 (hd_ix hL hp))
  have HC := Lib.hid (fun wx (hb : Below w.heap.size w wx) => at_some (h.below hb) (S.hd c) (hd_ok hL hc).1 (hd_ix hL hc))
  have HM := Lib.hid (fun wx (hb : Below w.heap.size w wx) => may_any (h.below hb) hL p c np nc hp hc)
  rw [hmay] at HM
  have HD := Lib.hid (fun wx (hb : Below w.heap.size w wx) => depth_any (h.below hb) hL p np hp)
  have HH := Lib.hid (fun wx (hb : Below w.heap.size w wx) => height_any hL (128 - d c) c nc hc rfl wx (h.below hb))
  have hhc := hgt_le K (128 - d c) c
  have hlow := hL.low p
  clear h hL hp hc hmay
  go_enter Tryz.func57, Tryz.ntmps57
  go_wp2_with fail
  refine (HP.out _ (Below.refl _ _)).mono ?_
  rintro e w1 ⟨rfl, hb1⟩
  go_wp2_with fail
  refine (HC.out _ hb1).mono ?_
  rintro e w2 ⟨rfl, hb2⟩
  have hB2 := bthen hb1 hb2
  go_wp2_with fail
  refine (HM.out _ hB2).mono ?_
  rintro e w3 ⟨rfl, hb3⟩
  have hB3 := bthen hB2 hb3
  go_wp2_with fail
  refine (HD.out _ hB3).mono ?_
  rintro e w4 ⟨rfl, hb4⟩
  have hB4 := bthen hB3 hb4
  go_wp2_with fail
  refine (HH.out _ hB4).mono ?_
  rintro e w5 ⟨rfl, hb5⟩
  have hB5 := bthen hB4 hb5
  generalize hgt K (128 - d c) c = hc1 at *
  have d5 : decide ((128 : Int) < (d p : Int) + (hc1 : Int)) = true := by simp; omega
  go_wp2_with fail
  go_ret2
  exact ⟨rfl, hB5⟩
end Go.Proofs.YtacdbnhnhdlmpaaGreatDoor.W
end
