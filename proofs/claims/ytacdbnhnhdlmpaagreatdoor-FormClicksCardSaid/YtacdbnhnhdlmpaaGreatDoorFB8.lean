/- Texts joined: Unl. -/
import Derived.Test.YtacdbnhnhdlmpaaGreatDoorFB5
import Derived.Test.YtacdbnhnhdlmpaaGreatDoorFB7
set_option maxRecDepth 100000
set_option maxHeartbeats 40000000
set_option linter.unusedVariables false
set_option linter.unusedSimpArgs false
section
namespace Go.Proofs.YtacdbnhnhdlmpaaGreatDoor.W
open Go.RowKit
def cut1N (S : Tr) (l : List Nat) (p j x : Nat) (n : Nd) : Nd :=
  { n with
    next := if pv l j = some x then hO S l[j + 1]? else n.next
    first := if x = p ∧ j = 0 then hO S l[j + 1]? else n.first }
def cut2N (S : Tr) (l : List Nat) (p j x : Nat) (n : Nd) : Nd :=
  { n with
    prev := if l[j + 1]? = some x then hO S (pv l j) else n.prev
    last := if x = p ∧ j + 1 = l.length then hO S (pv l j) else n.last }
theorem rec_put {w : World} {r : Nat} {G : World → Prop} (h : Blk w r (recC 0 0 0 0 0 0 [] [] false 0 0) 152) (a b c d e f : Int) (n o : ByteArray) (x : Bool) (y z : Int)
    (hG : ∀ w', Blk w' r [.int .i64 a, .int .i64 b, .int .i64 c, .int .i64 d, .int .i64 e, .int .i64 f, .string n, .string o, .bool x, .int .i64 y, .int .i64 z] 152 → Chg (fun k => k = r) w w' → G w') :
    G (((((((((((w.setCell ⟨r, 0, none⟩ (.int .i64 a)).setCell ⟨r, 1, none⟩ (.int .i64 b)).setCell ⟨r, 2, none⟩ (.int .i64 c)).setCell ⟨r, 3, none⟩ (.int .i64 d)).setCell ⟨r, 4, none⟩ (.int .i64 e)).setCell ⟨r, 5, none⟩ (.int .i64 f)).setCell ⟨r, 6, none⟩ (.string n)).setCell ⟨r, 7, none⟩ (.string o)).setCell ⟨r, 8, none⟩ (.bool x)).setCell ⟨r, 9, none⟩ (.int .i64 y)).setCell ⟨r, 10, none⟩ (.int .i64 z)) :=
  hG _ (rec_set h a b c d e f n o x y z) (rec_chg w r _ _ _ _ _ _ _ _ _ _ _)
set_option maxRecDepth 100000 in
set_option maxHeartbeats 8000000 in
theorem unlink_any {B R g cap : Nat} {S : Tr} {fv : Value} {w : World} {K : Nat → List Nat} {d : Nat → Nat} (h : TAt B R S (.slice (some ⟨g, 0, none⟩) S.slots.length cap) fv w) (hL : Lk S K d) (p j c : Nat) (nc : Nd) (hj : (K p)[j]? = some c) (hc : S.at c = some nc) :
    Calls Tryz.prog 104 #[.pointer (some ⟨R, 0, none⟩), .int .i64 (S.hd c)] w fun e w' => ∃ S', Cutd S S' (K p) p j c ∧ e = .returned (.agg (recC 2 (S.hd p) (S.hd c) nc.prev nc.next j [] [] false 0 0).toArray) ∧
      TAt B R S' (.slice (some ⟨g, 0, none⟩) S'.slots.length cap) fv w' ∧ Chg (fun k => k = g) w w' := by
  obtain ⟨hpar, hprev0, hnext⟩ := hL.kid p j c nc hj hc
  have hprev : nc.prev = hO S (pv (K p) j) := hprev0
  clear hprev0
  have hpm := List.mem_of_getElem? hj
  have hpc : p ≠ c := fun e => hL.self (e ▸ hpm : p ∈ K p)
  obtain ⟨np, hp⟩ := Option.isSome_iff_exists.1 (hL.kin p c hpm).1
  have HP := Lib.hid (fun wx (hb : Below w.heap.size w wx) => at_some (h.below hb) (S.hd p) (hd_ok hL hp).1 (hd_ix hL hp))
  have HC := Lib.hid (fun wx (hb : Below w.heap.size w wx) => at_some (h.below hb) (S.hd c) (hd_ok hL hc).1 (hd_ix hL hc))
  have HI := Lib.hid (fun wx (hb : Below w.heap.size w wx) => index_kid (h.below hb) hL p j c hj)
  have HT := Lib.hid h
  have hg := (h.slots.lt g rfl).2
  have hbl : Below w.heap.size w (w.alloc (.cells #[.int .i64 0, .int .i64 0, .int .i64 0, .int .i64 0, .int .i64 0, .int .i64 0, .string ⟨#[]⟩, .string ⟨#[]⟩, .bool false, .int .i64 0, .int .i64 0] 152)) := (Below.refl _ _).alloc (Nat.le_refl _) _
  have k0 := Blk.new w (recC 0 0 0 0 0 0 [] [] false 0 0) 152
  clear h
  go_enter Tryz.func104, Tryz.ntmps104
  go_wp2_with fail
  refine (HC.out _ hbl).mono ?_
  rintro e w2 ⟨rfl, hb2⟩
  have hB2 := hbl.trans (hb2.mono hbl.size)
  have HR2 := Lib.hid (k0.below hb2)
  have hT2 := HT.out.below hB2
  have c4 := nd_cell hT2 hc 4 (by omega)
  have c7 := nd_cell hT2 hc 7 (by omega)
  have c8 := nd_cell hT2 hc 8 (by omega)
  simp only [ndC, List.getElem?_cons_succ, List.getElem?_cons_zero] at c4 c7 c8
  rw [hpar] at c4
  have hpar' := Lib.hid hpar
  have HPv := Lib.hid hprev
  have HNx := Lib.hid hnext
  clear hpar hprev hnext
  have g2 : g < w2.heap.size := Nat.lt_of_lt_of_le hg hB2.size
  have HT2 := Lib.hid hT2
  clear hT2
  go_upto_region 2 with fail
  have hcell : ∀ (x : InS (SomeAll w2.heap.size w2 (fun _ => []))) (i : Nat), x.w.cell? ⟨g, i, none⟩ = w2.cell? ⟨g, i, none⟩ := fun x i => by
    obtain ⟨k, X, hx⟩ := x.h
    exact (bcell hx.below).1 _ _ g2
  have x4 : ∀ x : InS (SomeAll w2.heap.size w2 (fun _ => [])), x.w.cell? ⟨g, c * 10 + 1 + 4, none⟩ = some (.int .i64 (S.hd p)) := fun x => (hcell x _).trans c4
  have x7 : ∀ x : InS (SomeAll w2.heap.size w2 (fun _ => [])), x.w.cell? ⟨g, c * 10 + 1 + 7, none⟩ = some (.int .i64 nc.prev) := fun x => (hcell x _).trans c7
  have x8 : ∀ x : InS (SomeAll w2.heap.size w2 (fun _ => [])), x.w.cell? ⟨g, c * 10 + 1 + 8, none⟩ = some (.int .i64 nc.next) := fun x => (hcell x _).trans c8
  have hne : Nonempty (InS (SomeAll w2.heap.size w2 (fun _ => []))) := ⟨⟨_, 0, [], All.start w2⟩⟩
  refine reg_all w2.heap.size w2 (fun _ => []) (fun _ => .int .i64 (j : Int)) (fun _ r => .pointer (some ⟨r, 0, none⟩)) (fun _ => [.int .i64 0, .int .i64 0, .int .i64 0, .int .i64 0, .int .i64 0, .int .i64 0, .string ⟨#[]⟩, .string ⟨#[]⟩, .bool false, .int .i64 0, .int .i64 0]) (fun _ => 152) 18 (by kernel_rfl) (by kernel_rfl) (All.start w2) ?_
  simp only [List.take_succ_cons, List.take_zero, List.drop_succ_cons, List.drop_zero]
  repeat (first
    | (refine m_held (by rfl) (by rfl) (fun K hK => ?_); go_big_quiet_step (fail); refine wpQuiet_nil ?_; refine hK.out _ ?_; clear hK K)
    | (refine m_skip (by rfl) ?_; simp only [Act.put, List.setIfInBounds_toArray, List.set_cons_zero, List.set_cons_succ]))
  refine m_call (.int .i64 (j : Int)) rfl (by rfl) (by rfl) (fun w => by go_simp; exact ⟨rfl, rfl⟩) ?_ ?_
  · intro X w3 h3
    refine (HI.out _ (hB2.trans (h3.below.mono hB2.size))).mono ?_
    rintro e w4 ⟨rfl, hb⟩
    exact ⟨rfl, All.still h3 hb⟩
  simp only [Act.put, List.setIfInBounds_toArray, List.set_cons_zero, List.set_cons_succ]
  repeat (first
    | (refine m_held (by rfl) (by rfl) (fun K hK => ?_); go_big_quiet_step (fail); refine wpQuiet_nil ?_; refine hK.out _ ?_; clear hK K)
    | (refine m_skip (by rfl) ?_; simp only [Act.put, List.setIfInBounds_toArray, List.set_cons_zero, List.set_cons_succ]))
  refine m_made (fun r => .pointer (some ⟨r, 0, none⟩)) [.int .i64 0, .int .i64 0, .int .i64 0, .int .i64 0, .int .i64 0, .int .i64 0, .string ⟨#[]⟩, .string ⟨#[]⟩, .bool false, .int .i64 0, .int .i64 0] 152 rfl rfl rfl (by rfl) (by rfl) (fun w => by go_simp) ?_
  intro r
  simp only [Act.put, List.setIfInBounds_toArray, List.set_cons_zero, List.set_cons_succ]
  refine m_nil ?_
  intro w3 hA3
  simp only [List.cons_append, List.nil_append, List.append_nil] at hA3
  have k3 : Blk w3 r (recC 0 0 0 0 0 0 [] [] false 0 0) 152 := hA3.head
  have hr : w2.heap.size ≤ r := hA3.base _ (List.Mem.head _) r rfl
  have HB2s : g < w2.heap.size ∧ w2.heap.size ≤ r := ⟨g2, hr⟩
  have hB3 : Below w2.heap.size w2 w3 := hA3.below
  obtain ⟨⟨q0, q1, q2, q3, q4, q5, q6, q7, q8, q9, q10⟩, zf⟩ := rec_cells k3
  clear hne hcell x4 x7 x8 hA3
  have hT3 := HT2.out.below hB3
  have HT3 := Lib.hid hT3
  have HR3 := Lib.hid (HR2.out.below hB3)
  clear HI c4 c7 c8
  go_upto_region 3 with fail
  refine rec_put (G := fun wx => Code.wp _ _ _ _ wx) k3 _ _ _ _ _ _ _ _ _ _ _ ?_
  intro w4 k4 hch4
  clear q0 q1 q2 q3 q4 q5 q6 q7 q8 q9 q10 zf
  have hT4 := HT3.out.recd k3 hch4
  have hB4 : Below w.heap.size w w4 := (hB2.trans (hB3.mono hB2.size)).trans (hch4.below (Nat.le_trans hB2.size hB3.size) (fun k e => by subst e; exact Nat.le_trans hB2.size hr))
  have HR4 : Blk w4 w.heap.size (recC 0 0 0 0 0 0 [] [] false 0 0) 152 := HR3.out.chg hch4 (fun e => by have := HR2.out.lt; omega)
  clear k3 HT3 HR3 hch4 hB3
  have c4 := nd_cell hT4 hc 4 (by omega)
  simp only [ndC, List.getElem?_cons_succ, List.getElem?_cons_zero] at c4
  rw [hpar'.out] at c4
  have HT4 := Lib.hid hT4
  clear hT4
  go_wp2_with fail
  refine (HP.out _ hB4).mono ?_
  rintro e w5 ⟨rfl, hb5⟩
  have hT5 := HT4.out.below hb5
  have HR5 := Lib.hid (HR4.below hb5)
  have HK5 := Lib.hid (k4.below hb5)
  have HB5 := Lib.hid (hB4.trans (hb5.mono hB4.size))
  clear hb5 HR4 k4 HT4 c4 hB4
  have c7 := nd_cell hT5 hc 7 (by omega)
  have c8 := nd_cell hT5 hc 8 (by omega)
  have c5 := nd_cell hT5 hp 5 (by omega)
  simp only [ndC, List.getElem?_cons_succ, List.getElem?_cons_zero] at c7 c8 c5
  have y5 := nd_free hT5 (p * 10 + 1 + 5)
  have HT5 := Lib.hid hT5
  have g5 : g < w5.heap.size := Nat.lt_of_lt_of_le hg HB5.out.size
  clear hT5
  cases hq : pv (K p) j
  case' none =>
    have hj0 : j = 0 := by
      unfold pv at hq
      split at hq
      · assumption
      · rename_i e
        rw [List.getElem?_eq_none_iff] at hq
        have := (List.getElem?_eq_some_iff.1 hj).1
        omega
    have hpv := HPv.out
    rw [hq, show hO S none = 0 from rfl] at hpv
    rw [hpv] at c7
    go_upto_region 7 with fail
    have hT6 := HT5.out.setF (n' := { np with first := nc.next }) hp 5 (.int .i64 nc.next) (by omega) rfl rfl rfl
    have hch6 : Chg (fun k => k = g) w5 (w5.setCell ⟨g, p * 10 + 1 + 5, none⟩ (.int .i64 nc.next)) := (Chg.refl (fun k => k = g) w5).setCell ⟨g, p * 10 + 1 + 5, none⟩ (fun _ => (rfl : g = g)) _
    obtain ⟨S6, hS6⟩ : ∃ S6, S6 = S.put p { np with first := nc.next } := ⟨_, rfl⟩
    rw [← hS6] at hT6
    have hat6 : ∀ x, S6.at x = (S.at x).map (cut1N S (K p) p j x) := fun x => by
      rw [hS6, at_put hp]
      by_cases xp : x = p
      · subst xp
        rw [if_pos rfl, hp]
        simp only [Option.map_some, cut1N, hq, reduceCtorEq, if_false, true_and, if_pos hj0, ← HNx.out]
      · rw [if_neg xp]
        cases S.at x with
        | none => rfl
        | some n => simp [cut1N, hq, xp]
    have hsm6 : S6.slots.length = S.slots.length ∧ S6.b = S.b ∧ S6.s = S.s ∧ S6.free = S.free ∧ S6.root = S.root := by rw [hS6]; exact ⟨put_len _ _ _, rfl, rfl, rfl, rfl⟩
    have HT6 := Lib.hid hT6
    have HC6 := Lib.hid hch6
    clear hT6 hch6 HT5 c7 c8 c5 y5 hS6 hpv hj0
    generalize w5.setCell ⟨g, p * 10 + 1 + 5, none⟩ (.int .i64 nc.next) = w6 at *
  case' some q =>
    have hj0 : j ≠ 0 := fun e => by rw [e] at hq; simp [pv] at hq
    have hqm : q ∈ K p := by
      unfold pv at hq
      rw [if_neg hj0] at hq
      exact List.mem_of_getElem? hq
    have hqc : q ≠ c := fun e => by
      unfold pv at hq
      rw [if_neg hj0] at hq
      have := hL.inj (e ▸ hq) hj
      omega
    have hqp : q ≠ p := fun e => hL.self (e ▸ hqm : p ∈ K p)
    obtain ⟨nq, hnq⟩ := Option.isSome_iff_exists.1 (hL.kin p q hqm).2
    have hpv := HPv.out
    rw [hq, show hO S (some q) = S.hd q from rfl] at hpv
    rw [hpv] at c7
    have hne0 : ¬ S.hd q = 0 := by have := (hd_ok hL hnq).2; omega
    have hne2 : (S.hd q == 0) = false := by simpa using hne0
    have HQ := Lib.hid (fun wx (hb : Below w5.heap.size w5 wx) => at_some (HT5.out.below hb) (S.hd q) (hd_ok hL hnq).1 (hd_ix hL hnq))
    go_upto_region 5 with fail
    have x7 : ∀ x : InS (StB w5), x.w.cell? ⟨g, c * 10 + 1 + 7, none⟩ = some (.int .i64 (S.hd q)) := fun x => ((bcell x.h).1 _ _ g5).trans c7
    have x8 : ∀ x : InS (StB w5), x.w.cell? ⟨g, c * 10 + 1 + 8, none⟩ = some (.int .i64 nc.next) := fun x => ((bcell x.h).1 _ _ g5).trans c8
    have hne := stb_ne w5
    refine reg_b (fun _ => .pointer (some (na g q))) 12 (by kernel_rfl) (by kernel_rfl) ?_
    simp only [List.take_succ_cons, List.take_zero, List.drop_succ_cons, List.drop_zero]
    repeat (first
      | (refine m_held (by rfl) (by rfl) (fun K hK => ?_); go_big_quiet_step (fail); refine wpQuiet_nil ?_; refine hK.out _ ?_; clear hK K)
      | (refine m_skip (by rfl) ?_; simp only [Act.put, List.setIfInBounds_toArray, List.set_cons_zero, List.set_cons_succ]))
    refine m_call (.pointer (some (na g q))) rfl (by rfl) (by rfl) (fun w => by go_simp; exact ⟨rfl, rfl⟩) ?_ ?_
    · intro X wx hx
      refine (HQ.out _ hx).mono ?_
      rintro e wy ⟨rfl, hb⟩
      exact ⟨rfl, RowKit.Below.trans hx (hb.mono hx.size)⟩
    simp only [Act.put, List.setIfInBounds_toArray, List.set_cons_zero, List.set_cons_succ]
    repeat (first
      | (refine m_held (by rfl) (by rfl) (fun K hK => ?_); go_big_quiet_step (fail); refine wpQuiet_nil ?_; refine hK.out _ ?_; clear hK K)
      | (refine m_skip (by rfl) ?_; simp only [Act.put, List.setIfInBounds_toArray, List.set_cons_zero, List.set_cons_succ]))
    refine m_nil ?_
    intro w5' h5
    have hT5' := HT5.out.below h5
    have r8 := nd_cell hT5' hnq 8 (by omega)
    simp only [ndC, List.getElem?_cons_succ, List.getElem?_cons_zero] at r8
    have y8 := nd_free hT5' (q * 10 + 1 + 8)
    have HT5' := Lib.hid hT5'
    clear hT5' x7 x8 hne HQ
    go_upto_region 7 with fail
    have hT6 := HT5'.out.setF (n' := { nq with next := nc.next }) hnq 8 (.int .i64 nc.next) (by omega) rfl rfl rfl
    have hch6 : Chg (fun k => k = g) w5 (w5'.setCell ⟨g, q * 10 + 1 + 8, none⟩ (.int .i64 nc.next)) := (Chg.of_below (F := fun k => k = g) h5).setCell ⟨g, q * 10 + 1 + 8, none⟩ (fun _ => (rfl : g = g)) _
    obtain ⟨S6, hS6⟩ : ∃ S6, S6 = S.put q { nq with next := nc.next } := ⟨_, rfl⟩
    rw [← hS6] at hT6
    have hat6 : ∀ x, S6.at x = (S.at x).map (cut1N S (K p) p j x) := fun x => by
      rw [hS6, at_put hnq]
      by_cases xq : x = q
      · subst xq
        rw [if_pos rfl, hnq]
        simp only [Option.map_some, cut1N]
        rw [if_pos hq, if_neg (fun e => hqp e.1), ← HNx.out]
      · have xq2 : ¬ q = x := fun e => xq e.symm
        rw [if_neg xq]
        cases S.at x with
        | none => rfl
        | some n => simp [cut1N, hq, xq2, hj0]
    have hsm6 : S6.slots.length = S.slots.length ∧ S6.b = S.b ∧ S6.s = S.s ∧ S6.free = S.free ∧ S6.root = S.root := by rw [hS6]; exact ⟨put_len _ _ _, rfl, rfl, rfl, rfl⟩
    have HT6 := Lib.hid hT6
    have HC6 := Lib.hid hch6
    clear hT6 hch6 HT5 HT5' c7 c8 c5 y5 r8 y8 hS6 hpv hj0 hne0 hne2 hqm hqc hqp
    generalize w5'.setCell ⟨g, q * 10 + 1 + 8, none⟩ (.int .i64 nc.next) = w6 at *
  all_goals
    have hc6 : S6.at c = some nc := by
      rw [hat6, hc]
      have e1 : ¬ pv (K p) j = some c := fun e => by
        unfold pv at e
        split at e
        · cases e
        · have := hL.inj e hj; omega
      simp only [Option.map_some, cut1N]
      rw [if_neg e1, if_neg (fun e => hpc e.1.symm)]
    clear hq
    obtain ⟨np6, hp6⟩ : ∃ n, S6.at p = some n := by rw [hat6, hp]; exact ⟨_, rfl⟩
    have hT6 := HT6.out
    have d7 := nd_cell hT6 hc6 7 (by omega)
    have d8 := nd_cell hT6 hc6 8 (by omega)
    have d6 := nd_cell hT6 hp6 6 (by omega)
    simp only [ndC, List.getElem?_cons_succ, List.getElem?_cons_zero] at d7 d8 d6
    have z6 := nd_free hT6 (p * 10 + 1 + 6)
    have hl6 := hsm6.1
    have g6 : g < w6.heap.size := Nat.lt_of_lt_of_le g5 HC6.out.size
    clear hT6
    cases hq2 : (K p)[j + 1]?
    case' none =>
      have hjl : j + 1 = (K p).length := by
        rw [List.getElem?_eq_none_iff] at hq2
        have := (List.getElem?_eq_some_iff.1 hj).1
        omega
      have hnx := HNx.out
      rw [hq2, show hO S none = 0 from rfl] at hnx
      rw [hnx] at d8
      go_upto_region 10 with fail
      have hT7 := HT6.out.setF (n' := { np6 with last := nc.prev }) hp6 6 (.int .i64 nc.prev) (by omega) rfl rfl rfl
      have hch7 : Chg (fun k => k = g) w6 (w6.setCell ⟨g, p * 10 + 1 + 6, none⟩ (.int .i64 nc.prev)) := (Chg.refl (fun k => k = g) w6).setCell ⟨g, p * 10 + 1 + 6, none⟩ (fun _ => (rfl : g = g)) _
      obtain ⟨S7, hS7⟩ : ∃ S7, S7 = S6.put p { np6 with last := nc.prev } := ⟨_, rfl⟩
      rw [← hS7] at hT7
      have hat7 : ∀ x, S7.at x = (S6.at x).map (cut2N S (K p) p j x) := fun x => by
        rw [hS7, at_put hp6]
        by_cases xp : x = p
        · subst xp
          rw [if_pos rfl, hp6]
          simp only [Option.map_some, cut2N, hq2, reduceCtorEq, if_false, true_and, if_pos hjl, ← HPv.out]
        · rw [if_neg xp]
          cases S6.at x with
          | none => rfl
          | some n => simp [cut2N, hq2, xp]
      have hsm7 : S7.slots.length = S.slots.length ∧ S7.b = S.b ∧ S7.s = S.s ∧ S7.free = S.free ∧ S7.root = S.root := by rw [hS7]; exact ⟨(put_len _ _ _).trans hsm6.1, hsm6.2⟩
      have HT7 := Lib.hid hT7
      have HC7 := Lib.hid hch7
      clear hT7 hch7 d7 d8 d6 z6 hS7 hnx hjl hq2
      generalize w6.setCell ⟨g, p * 10 + 1 + 6, none⟩ (.int .i64 nc.prev) = w7 at *
    case' some q2 =>
      have hqm2 : q2 ∈ K p := List.mem_of_getElem? hq2
      have hqc2 : q2 ≠ c := fun e => by have := hL.inj (e ▸ hq2) hj; omega
      have hqp2 : q2 ≠ p := fun e => hL.self (e ▸ hqm2 : p ∈ K p)
      have hjl : ¬ j + 1 = (K p).length := fun e => by rw [List.getElem?_eq_none (by omega)] at hq2; cases hq2
      obtain ⟨nq0, hnq0⟩ := Option.isSome_iff_exists.1 (hL.kin p q2 hqm2).2
      obtain ⟨nq2, hnq2⟩ : ∃ n, S6.at q2 = some n := by rw [hat6, hnq0]; exact ⟨_, rfl⟩
      have hnx := HNx.out
      rw [hq2, show hO S (some q2) = S.hd q2 from rfl] at hnx
      rw [hnx] at d8
      have hne0' : ¬ S.hd q2 = 0 := by have := (hd_ok hL hnq0).2; omega
      have hne2' : (S.hd q2 == 0) = false := by simpa using hne0'
      have hhd2 : S6.hd q2 = S.hd q2 := by unfold Tr.hd; rw [hsm6.2.1, hsm6.2.2.1]
      have HQ2 := Lib.hid (fun wx (hb : Below w6.heap.size w6 wx) => at_some (HT6.out.below hb) (S.hd q2) (hd_ok hL hnq0).1 (by rw [← hhd2]; exact ix_hd HT6.out.few (at_slot hnq2)))
      go_upto_region 8 with fail
      have x7' : ∀ x : InS (StB w6), x.w.cell? ⟨g, c * 10 + 1 + 7, none⟩ = some (.int .i64 nc.prev) := fun x => ((bcell x.h).1 _ _ g6).trans d7
      have x8' : ∀ x : InS (StB w6), x.w.cell? ⟨g, c * 10 + 1 + 8, none⟩ = some (.int .i64 (S.hd q2)) := fun x => ((bcell x.h).1 _ _ g6).trans d8
      have hne' := stb_ne w6
      refine reg_b (fun _ => .pointer (some (na g q2))) 12 (by kernel_rfl) (by kernel_rfl) ?_
      simp only [List.take_succ_cons, List.take_zero, List.drop_succ_cons, List.drop_zero]
      repeat (first
        | (refine m_held (by rfl) (by rfl) (fun K hK => ?_); go_big_quiet_step (fail); refine wpQuiet_nil ?_; refine hK.out _ ?_; clear hK K)
        | (refine m_skip (by rfl) ?_; simp only [Act.put, List.setIfInBounds_toArray, List.set_cons_zero, List.set_cons_succ]))
      refine m_call (.pointer (some (na g q2))) rfl (by rfl) (by rfl) (fun w => by go_simp; exact ⟨rfl, rfl⟩) ?_ ?_
      · intro X wx hx
        refine (HQ2.out _ hx).mono ?_
        rintro e wy ⟨rfl, hb⟩
        exact ⟨rfl, RowKit.Below.trans hx (hb.mono hx.size)⟩
      simp only [Act.put, List.setIfInBounds_toArray, List.set_cons_zero, List.set_cons_succ]
      repeat (first
        | (refine m_held (by rfl) (by rfl) (fun K hK => ?_); go_big_quiet_step (fail); refine wpQuiet_nil ?_; refine hK.out _ ?_; clear hK K)
        | (refine m_skip (by rfl) ?_; simp only [Act.put, List.setIfInBounds_toArray, List.set_cons_zero, List.set_cons_succ]))
      refine m_nil ?_
      intro w6' h6
      have hT6' := HT6.out.below h6
      have r7 := nd_cell hT6' hnq2 7 (by omega)
      simp only [ndC, List.getElem?_cons_succ, List.getElem?_cons_zero] at r7
      have y7 := nd_free hT6' (q2 * 10 + 1 + 7)
      have HT6' := Lib.hid hT6'
      clear hT6' x7' x8' hne' HQ2
      go_upto_region 10 with fail
      have hT7 := HT6'.out.setF (n' := { nq2 with prev := nc.prev }) hnq2 7 (.int .i64 nc.prev) (by omega) rfl rfl rfl
      have hch7 : Chg (fun k => k = g) w6 (w6'.setCell ⟨g, q2 * 10 + 1 + 7, none⟩ (.int .i64 nc.prev)) := (Chg.of_below (F := fun k => k = g) h6).setCell ⟨g, q2 * 10 + 1 + 7, none⟩ (fun _ => (rfl : g = g)) _
      obtain ⟨S7, hS7⟩ : ∃ S7, S7 = S6.put q2 { nq2 with prev := nc.prev } := ⟨_, rfl⟩
      rw [← hS7] at hT7
      have hat7 : ∀ x, S7.at x = (S6.at x).map (cut2N S (K p) p j x) := fun x => by
        rw [hS7, at_put hnq2]
        by_cases xq : x = q2
        · subst xq
          rw [if_pos rfl, hnq2]
          simp only [Option.map_some, cut2N]
          rw [if_pos hq2, if_neg (fun e => hqp2 e.1), ← HPv.out]
        · have xq2 : ¬ q2 = x := fun e => xq e.symm
          rw [if_neg xq]
          cases S6.at x with
          | none => rfl
          | some n => simp [cut2N, hq2, xq2, hjl]
      have hsm7 : S7.slots.length = S.slots.length ∧ S7.b = S.b ∧ S7.s = S.s ∧ S7.free = S.free ∧ S7.root = S.root := by rw [hS7]; exact ⟨(put_len _ _ _).trans hsm6.1, hsm6.2⟩
      have HT7 := Lib.hid hT7
      have HC7 := Lib.hid hch7
      clear hT7 hch7 HT6' d7 d8 d6 z6 r7 y7 hS7 hnx hjl hne0' hne2' hqm2 hqc2 hqp2 hq2
      generalize w6'.setCell ⟨g, q2 * 10 + 1 + 7, none⟩ (.int .i64 nc.prev) = w7 at *
    all_goals
      have hc7 : S7.at c = some nc := by
        rw [hat7, hc6]
        have e1 : ¬ (K p)[j + 1]? = some c := fun e => by have := hL.inj e hj; omega
        simp only [Option.map_some, cut2N]
        rw [if_neg e1, if_neg (fun e => hpc e.1.symm)]
      have hT7 := HT7.out
      have v4 := nd_cell hT7 hc7 4 (by omega)
      have v7 := nd_cell hT7 hc7 7 (by omega)
      have v8 := nd_cell hT7 hc7 8 (by omega)
      simp only [ndC, List.getElem?_cons_succ, List.getElem?_cons_zero] at v4 v7 v8
      have u4 := nd_free hT7 (c * 10 + 1 + 4)
      have u7 := nd_free hT7 (c * 10 + 1 + 7)
      have u8 := nd_free hT7 (c * 10 + 1 + 8)
      clear hT7
      go_upto_region 11 with fail
      have hT8 := ((HT7.out.setF (n' := { nc with parent := 0 }) hc7 4 (.int .i64 0) (by omega) rfl rfl rfl).setF (i := c) (n := { nc with parent := 0 }) (n' := { nc with parent := 0, prev := 0 }) (by rw [at_put hc7, if_pos rfl]) 7 (.int .i64 0) (by omega) rfl rfl rfl).setF (i := c) (n := { nc with parent := 0, prev := 0 }) (n' := { nc with parent := 0, prev := 0, next := 0 }) (by rw [at_put (by rw [at_put hc7, if_pos rfl]), if_pos rfl]) 8 (.int .i64 0) (by omega) rfl rfl rfl
      have hch8 : Chg (fun k => k = g) w7 (((w7.setCell ⟨g, c * 10 + 1 + 4, none⟩ (.int .i64 0)).setCell ⟨g, c * 10 + 1 + 7, none⟩ (.int .i64 0)).setCell ⟨g, c * 10 + 1 + 8, none⟩ (.int .i64 0)) :=
        (((Chg.refl (fun k => k = g) w7).setCell ⟨g, c * 10 + 1 + 4, none⟩ (fun _ => (rfl : g = g)) _).setCell ⟨g, c * 10 + 1 + 7, none⟩ (fun _ => (rfl : g = g)) _).setCell ⟨g, c * 10 + 1 + 8, none⟩ (fun _ => (rfl : g = g)) _
      obtain ⟨S8, hS8⟩ : ∃ S8, S8 = ((S7.put c { nc with parent := 0 }).put c { nc with parent := 0, prev := 0 }).put c { nc with parent := 0, prev := 0, next := 0 } := ⟨_, rfl⟩
      rw [← hS8] at hT8
      have hcut : Cutd S S8 (K p) p j c := by
        refine ⟨fun x => ?_, ?_, ?_, ?_, ?_, ?_⟩
        · rw [hS8, at_put (by rw [at_put (by rw [at_put hc7, if_pos rfl]), if_pos rfl])]
          by_cases xc : x = c
          · subst xc
            rw [if_pos rfl, hc]
            have e1 : ¬ x = p := fun e => hpc e.symm
            simp [cutN, e1]
          · rw [if_neg xc, at_put (by rw [at_put hc7, if_pos rfl]), if_neg xc, at_put hc7, if_neg xc, hat7, hat6]
            cases S.at x with
            | none => rfl
            | some n => simp [cutN, cut1N, cut2N, xc]
        · rw [hS8]; exact (put_len _ _ _).trans ((put_len _ _ _).trans ((put_len _ _ _).trans hsm7.1))
        · rw [hS8]; exact hsm7.2.1
        · rw [hS8]; exact hsm7.2.2.1
        · rw [hS8]; exact hsm7.2.2.2.1
        · rw [hS8]; exact hsm7.2.2.2.2
      have HT8 := Lib.hid hT8
      have HC8 := Lib.hid (((HC6.out.trans HC7.out (fun _ _ h => h)).trans hch8 (fun _ _ h => h)))
      clear hT8 hch8 HT7 HC7 v4 v7 v8 u4 u7 u8 hS8
      generalize ((w7.setCell ⟨g, c * 10 + 1 + 4, none⟩ (.int .i64 0)).setCell ⟨g, c * 10 + 1 + 7, none⟩ (.int .i64 0)).setCell ⟨g, c * 10 + 1 + 8, none⟩ (.int .i64 0) = w8 at *
      have k8 := HR5.out.chg HC8.out (fun e => by omega)
      have b8 := HK5.out.chg HC8.out (fun e => by have := HB2s; omega)
      obtain ⟨⟨q0, q1, q2', q3, q4, q5, q6, q7, q8, q9, q10⟩, zf⟩ := rec_cells k8
      have b0 := b8.cell 0
      have b1 := b8.cell 1
      have b2 := b8.cell 2
      have b3 := b8.cell 3
      have b4 := b8.cell 4
      have b5 := b8.cell 5
      have b6 := b8.cell 6
      have b7 := b8.cell 7
      have b8' := b8.cell 8
      have b9 := b8.cell 9
      have b10 := b8.cell 10
      simp only [List.getElem?_cons_succ, List.getElem?_cons_zero] at b0 b1 b2 b3 b4 b5 b6 b7 b8' b9 b10
      go_wp2_with fail
      (try simp only [Exit.inBlock, Exit.then])
      have k9 := rec_set k8 2 (S.hd p) (S.hd c) nc.prev nc.next (j : Int) ⟨#[]⟩ ⟨#[]⟩ false 0 0
      refine bodyPost_ret (v := .agg (recC 2 (S.hd p) (S.hd c) nc.prev nc.next (j : Int) [] [] false 0 0).toArray) (results_cell_row Tryz.results104 _ _ w.heap.size 152 _ (0, 0) _ ?_ k9 Tryz.underlying152 rfl infoRec) rfl ?_
      · rfl
      have HRC : ∀ {wf}, Chg (fun k => k = w.heap.size) w8 wf → TAt B R S8 (.slice (some ⟨g, 0, none⟩) S8.slots.length cap) fv wf ∧ Chg (fun k => k = g) w wf := fun {wf} hx => by
        refine ⟨?_, ?_⟩
        · exact HT8.out.recd k8 hx
        · exact ((Chg.of_below HB5.out).trans HC8.out (fun _ _ h => h)).trans hx (fun i hi e => by omega)
      exact ⟨S8, hcut, rfl, HRC (rec_chg w8 w.heap.size _ _ _ _ _ _ _ _ _ _ _)⟩
end Go.Proofs.YtacdbnhnhdlmpaaGreatDoor.W
end
