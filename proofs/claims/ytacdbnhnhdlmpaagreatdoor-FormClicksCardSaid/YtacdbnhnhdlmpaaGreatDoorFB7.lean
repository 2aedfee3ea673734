/- Texts joined: Link. -/
import Derived.Test.YtacdbnhnhdlmpaaGreatDoorFB4
import Derived.Test.YtacdbnhnhdlmpaaGreatDoorFB6
import Derived.Deep.CutBlock
import Derived.Deep.RegionHeld3
import Derived.Lib.SmallJoins
set_option maxRecDepth 100000
set_option maxHeartbeats 40000000
set_option linter.unusedVariables false
set_option linter.unusedSimpArgs false
section
namespace Go.Proofs.YtacdbnhnhdlmpaaGreatDoor.W
open Go.RowKit
theorem nd_free {B R g cap : Nat} {S : Tr} {fv : Value} {w : World} (h : TAt B R S (.slice (some ⟨g, 0, none⟩) S.slots.length cap) fv w) (j : Nat) : w.frozen? ⟨g, j, none⟩ = false := by
  rcases h.slots.2 with ⟨e, _⟩ | ⟨g', cap', cur, e, _, hh, _⟩
  · cases e
  · cases e; exact Lib.frozen_of_heap hh j
theorem put_len (S : Tr) (i : Nat) (n : Nd) : (S.put i n).slots.length = S.slots.length := by unfold Tr.put; simp
theorem pv_last (l : List Nat) : pv l l.length = l.getLast? := by
  unfold pv
  cases l with
  | nil => rfl
  | cons a t => rw [if_neg (by simp), List.getLast?_eq_getElem?]
def recC (kind target node prev next index : Int) (name old : List UInt8) (had : Bool) (count size : Int) : List Value :=
  [.int .i64 kind, .int .i64 target, .int .i64 node, .int .i64 prev, .int .i64 next, .int .i64 index, strV name, strV old, .bool had, .int .i64 count, .int .i64 size]
theorem rec_cells {w : World} {r : Nat} (h : Blk w r (recC 0 0 0 0 0 0 [] [] false 0 0) 152) :
    (w.cell? ⟨r, 0, none⟩ = some (.int .i64 0) ∧ w.cell? ⟨r, 1, none⟩ = some (.int .i64 0) ∧ w.cell? ⟨r, 2, none⟩ = some (.int .i64 0) ∧ w.cell? ⟨r, 3, none⟩ = some (.int .i64 0) ∧ w.cell? ⟨r, 4, none⟩ = some (.int .i64 0) ∧ w.cell? ⟨r, 5, none⟩ = some (.int .i64 0) ∧
      w.cell? ⟨r, 6, none⟩ = some (strV []) ∧ w.cell? ⟨r, 7, none⟩ = some (strV []) ∧ w.cell? ⟨r, 8, none⟩ = some (.bool false) ∧ w.cell? ⟨r, 9, none⟩ = some (.int .i64 0) ∧ w.cell? ⟨r, 10, none⟩ = some (.int .i64 0)) ∧ ∀ j, w.frozen? ⟨r, j, none⟩ = false :=
  ⟨⟨h.cell 0, h.cell 1, h.cell 2, h.cell 3, h.cell 4, h.cell 5, h.cell 6, h.cell 7, h.cell 8, h.cell 9, h.cell 10⟩, h.free⟩
theorem infoRec : (Tryz.prog.info? 152).map (·.size) = some 11 := by kernel_rfl
theorem rec_set {w : World} {r : Nat} (h : Blk w r (recC 0 0 0 0 0 0 [] [] false 0 0) 152) (a b c d e f : Int) (n o : ByteArray) (x : Bool) (y z : Int) :
    (((((((((((w.setCell ⟨r, 0, none⟩ (.int .i64 a)).setCell ⟨r, 1, none⟩ (.int .i64 b)).setCell ⟨r, 2, none⟩ (.int .i64 c)).setCell ⟨r, 3, none⟩ (.int .i64 d)).setCell ⟨r, 4, none⟩ (.int .i64 e)).setCell ⟨r, 5, none⟩ (.int .i64 f)).setCell ⟨r, 6, none⟩ (.string n)).setCell ⟨r, 7, none⟩ (.string o)).setCell ⟨r, 8, none⟩ (.bool x)).setCell ⟨r, 9, none⟩ (.int .i64 y)).setCell ⟨r, 10, none⟩ (.int .i64 z)).heap[r]? =
      some (.cells #[.int .i64 a, .int .i64 b, .int .i64 c, .int .i64 d, .int .i64 e, .int .i64 f, .string n, .string o, .bool x, .int .i64 y, .int .i64 z] 152 (0, 0)) :=
  ((((((((((h.set 0 (.int .i64 a)).set 1 (.int .i64 b)).set 2 (.int .i64 c)).set 3 (.int .i64 d)).set 4 (.int .i64 e)).set 5 (.int .i64 f)).set 6 (.string n)).set 7 (.string o)).set 8 (.bool x)).set 9 (.int .i64 y)).set 10 (.int .i64 z)
theorem rec_chg (w : World) (r : Nat) (a b c d e f n o x y z : Value) :
    Chg (fun k => k = r) w (((((((((((w.setCell ⟨r, 0, none⟩ a).setCell ⟨r, 1, none⟩ b).setCell ⟨r, 2, none⟩ c).setCell ⟨r, 3, none⟩ d).setCell ⟨r, 4, none⟩ e).setCell ⟨r, 5, none⟩ f).setCell ⟨r, 6, none⟩ n).setCell ⟨r, 7, none⟩ o).setCell ⟨r, 8, none⟩ x).setCell ⟨r, 9, none⟩ y).setCell ⟨r, 10, none⟩ z) := by
  have h := fun {w' : World} (k : Chg (fun k => k = r) w w') (j : Nat) (v : Value) => k.setCell ⟨r, j, none⟩ (fun _ => rfl) v
  exact h (h (h (h (h (h (h (h (h (h (h (Chg.refl _ w) 0 a) 1 b) 2 c) 3 d) 4 e) 5 f) 6 n) 7 o) 8 x) 9 y) 10 z
theorem TAt.recd {B R r : Nat} {S : Tr} {sv fv : Value} {w w' : World} {cs : List Value} (h : TAt B R S sv fv w) (hr : Blk w r cs 152) (k : Chg (fun k => k = r) w w') : TAt B R S sv fv w' := by
  have other : ∀ {k : Nat} {cs : Array Value} {t : TypeId}, w.heap[k]? = some (.cells cs t (0, 0)) → 152 ≠ t → w'.heap[k]? = w.heap[k]? := fun hk ht => k.block _ (lt_of_block hk) (fun e => blk_ne hr hk ht e.symm)
  have keep : ∀ {e sz n : Nat} {v : Value} {xs : List Value}, 152 ≠ e → w.ownsRow B e sz v n xs → w'.ownsRow B e sz v n xs := fun ht ⟨h1, h2⟩ =>
    ⟨h1, h2.imp id fun ⟨g', cap', cur', e1, e2, e3, rest⟩ => ⟨g', cap', cur', e1, e2, (other e3 ht).trans e3, rest⟩⟩
  refine ⟨h.blk.kept (other h.blk (by decide)), keep (by decide) h.slots, keep (by decide) h.free, fun i n hi => ?_, h.base, h.few⟩
  obtain ⟨a, cap, e, h'⟩ := h.attrs i n hi
  refine ⟨a, cap, e, h'.imp id ?_⟩
  rintro ⟨g, cur, e, hB, hg, hc⟩
  exact ⟨g, cur, e, hB, (other hg (by decide)).trans hg, hc⟩
set_option maxRecDepth 100000 in
set_option maxHeartbeats 4000000 in
theorem link_end {B R g cap : Nat} {S : Tr} {fv : Value} {w : World} {K : Nat → List Nat} {d d' : Nat → Nat} (h : TAt B R S (.slice (some ⟨g, 0, none⟩) S.slots.length cap) fv w) (hL : Lk S K d) (p c : Nat) (np nc : Nd) (hp : S.at p = some np) (hc : S.at c = some nc) (hpc : p ≠ c)
    (hdet : ∀ q, c ∉ K q) (hL' : ∀ S', Linked S S' (K p) p (K p).length c → Lk S' (linkK K p (K p).length c) d') :
    Calls Tryz.prog 115 #[.pointer (some ⟨R, 0, none⟩), .int .i64 (S.hd p), .int .i64 (S.hd c), .int .i64 0] w fun e w' => ∃ S', Linked S S' (K p) p (K p).length c ∧ e = .returned (.agg (recC 1 (S.hd p) (S.hd c) np.last 0 (K p).length [] [] false 0 0).toArray) ∧
      TAt B R S' (.slice (some ⟨g, 0, none⟩) S'.slots.length cap) fv w' ∧ Chg (fun k => k = g) w w' := by
  have HP := Lib.hid (fun wx (hb : Below w.heap.size w wx) => at_some (h.below hb) (S.hd p) (hd_ok hL hp).1 (hd_ix hL hp))
  have HC := Lib.hid (fun wx (hb : Below w.heap.size w wx) => at_some (h.below hb) (S.hd c) (hd_ok hL hc).1 (hd_ix hL hc))
  have HT := Lib.hid h
  have hbl : Below w.heap.size w (w.alloc (.cells #[.int .i64 0, .int .i64 0, .int .i64 0, .int .i64 0, .int .i64 0, .int .i64 0, .string ⟨#[]⟩, .string ⟨#[]⟩, .bool false, .int .i64 0, .int .i64 0] 152)) := (Below.refl _ _).alloc (Nat.le_refl _) _
  clear h
  go_enter Tryz.func115, Tryz.ntmps115
  go_wp2_with fail
  refine (HP.out _ hbl).mono ?_
  rintro e w2 ⟨rfl, hb2⟩
  have hB2 := hbl.trans (hb2.mono hbl.size)
  go_wp2_with fail
  refine (HC.out _ hB2).mono ?_
  rintro e w3 ⟨rfl, hb3⟩
  have hB3 := hB2.trans (hb3.mono hB2.size)
  have hT3 := HT.out.below hB3
  have c4 := nd_cell hT3 hc 4 (by omega)
  have c8 := nd_cell hT3 hc 8 (by omega)
  simp only [ndC, List.getElem?_cons_succ, List.getElem?_cons_zero] at c4 c8
  have z4 := nd_free hT3 (c * 10 + 1 + 4)
  have z8 := nd_free hT3 (c * 10 + 1 + 8)
  have HT3 := Lib.hid hT3
  clear hT3
  go_upto_region 6 with fail
  have hT4 := (HT3.out.setF (n' := { nc with parent := S.hd p }) hc 4 (.int .i64 (S.hd p)) (by omega) rfl rfl rfl).setF (i := c) (n := { nc with parent := S.hd p }) (n' := { nc with parent := S.hd p, next := 0 }) (by rw [at_put hc, if_pos rfl]) 8 (.int .i64 0) (by omega) rfl rfl rfl
  have hch4 : Chg (fun k => k = g) w3 ((w3.setCell ⟨g, c * 10 + 1 + 4, none⟩ (.int .i64 (S.hd p))).setCell ⟨g, c * 10 + 1 + 8, none⟩ (.int .i64 0)) :=
    ((Chg.refl (fun k => k = g) w3).setCell ⟨g, c * 10 + 1 + 4, none⟩ (fun _ => (rfl : g = g)) _).setCell ⟨g, c * 10 + 1 + 8, none⟩ (fun _ => (rfl : g = g)) _
  obtain ⟨S4, hS4⟩ : ∃ S4, S4 = (S.put c { nc with parent := S.hd p }).put c { nc with parent := S.hd p, next := 0 } := ⟨_, rfl⟩
  rw [← hS4] at hT4
  have hp4 : S4.at p = some np := by rw [hS4, at_put (by rw [at_put hc, if_pos rfl]), if_neg hpc, at_put hc, if_neg hpc]; exact hp
  have hc4 : S4.at c = some { nc with parent := S.hd p, next := 0 } := by rw [hS4, at_put (by rw [at_put hc, if_pos rfl]), if_pos rfl]
  have l6 := nd_cell hT4 hp4 6 (by omega)
  have l7 := nd_cell hT4 hc4 7 (by omega)
  simp only [ndC, List.getElem?_cons_succ, List.getElem?_cons_zero] at l6 l7
  have z7 := nd_free hT4 (c * 10 + 1 + 7)
  have HT4 := Lib.hid hT4
  have HC4 := Lib.hid hch4
  clear hT4 hch4 HT3 c4 c8 z4 z8
  generalize (w3.setCell ⟨g, c * 10 + 1 + 4, none⟩ (.int .i64 (S.hd p))).setCell ⟨g, c * 10 + 1 + 8, none⟩ (.int .i64 0) = w4 at *
  go_upto_region 7 with fail
  have hT5 := HT4.out.setF (n' := { nc with parent := S.hd p, next := 0, prev := np.last }) hc4 7 (.int .i64 np.last) (by omega) rfl rfl rfl
  have hch5 : Chg (fun k => k = g) w4 (w4.setCell ⟨g, c * 10 + 1 + 7, none⟩ (.int .i64 np.last)) := (Chg.refl (fun k => k = g) w4).setCell ⟨g, c * 10 + 1 + 7, none⟩ (fun _ => (rfl : g = g)) _
  obtain ⟨S5, hS5⟩ : ∃ S5, S5 = S4.put c { nc with parent := S.hd p, next := 0, prev := np.last } := ⟨_, rfl⟩
  rw [← hS5] at hT5
  have hp5 : S5.at p = some np := by rw [hS5, at_put hc4, if_neg hpc]; exact hp4
  have hc5 : S5.at c = some { nc with parent := S.hd p, next := 0, prev := np.last } := by rw [hS5, at_put hc4, if_pos rfl]
  have m6 := nd_cell hT5 hp5 6 (by omega)
  simp only [ndC, List.getElem?_cons_succ, List.getElem?_cons_zero] at m6
  have y6 := nd_free hT5 (p * 10 + 1 + 6)
  have HT5 := Lib.hid hT5
  have HC5 := Lib.hid hch5
  clear hT5 hch5 HT4 l6 l7 z7
  generalize w4.setCell ⟨g, c * 10 + 1 + 7, none⟩ (.int .i64 np.last) = w5 at *
  go_upto_region 8 with fail
  have hT6 := HT5.out.setF (n' := { np with last := S.hd c }) hp5 6 (.int .i64 (S.hd c)) (by omega) rfl rfl rfl
  have hch6 : Chg (fun k => k = g) w5 (w5.setCell ⟨g, p * 10 + 1 + 6, none⟩ (.int .i64 (S.hd c))) := (Chg.refl (fun k => k = g) w5).setCell ⟨g, p * 10 + 1 + 6, none⟩ (fun _ => (rfl : g = g)) _
  obtain ⟨S6, hS6⟩ : ∃ S6, S6 = S5.put p { np with last := S.hd c } := ⟨_, rfl⟩
  rw [← hS6] at hT6
  have hp6 : S6.at p = some { np with last := S.hd c } := by rw [hS6, at_put hp5, if_pos rfl]
  have hc6 : S6.at c = some { nc with parent := S.hd p, next := 0, prev := np.last } := by rw [hS6, at_put hp5, if_neg (fun e => hpc e.symm)]; exact hc5
  have o7 := nd_cell hT6 hc6 7 (by omega)
  have o5 := nd_cell hT6 hp6 5 (by omega)
  simp only [ndC, List.getElem?_cons_succ, List.getElem?_cons_zero] at o7 o5
  have x5 := nd_free hT6 (p * 10 + 1 + 5)
  have HT6 := Lib.hid hT6
  have HC6 := Lib.hid hch6
  clear hT6 hch6 HT5 m6 y6
  generalize w5.setCell ⟨g, p * 10 + 1 + 6, none⟩ (.int .i64 (S.hd c)) = w6 at *
  have hlast := (hL.node p np hp).2
  cases hq : (K p).getLast?
  case' none =>
    rw [hq, show hO S none = 0 from rfl] at hlast
    rw [hlast] at o7
    have hK : K p = [] := List.getLast?_eq_none_iff.1 hq
    go_upto_region 11 with fail
    have hT7 := HT6.out.setF (n' := { np with last := S.hd c, first := S.hd c }) hp6 5 (.int .i64 (S.hd c)) (by omega) rfl rfl rfl
    have hch7 : Chg (fun k => k = g) w6 (w6.setCell ⟨g, p * 10 + 1 + 5, none⟩ (.int .i64 (S.hd c))) := (Chg.refl (fun k => k = g) w6).setCell ⟨g, p * 10 + 1 + 5, none⟩ (fun _ => (rfl : g = g)) _
    obtain ⟨S7, hS7⟩ : ∃ S7, S7 = S6.put p { np with last := S.hd c, first := S.hd c } := ⟨_, rfl⟩
    rw [← hS7] at hT7
    have hlk : Linked S S7 (K p) p (K p).length c := by
      refine ⟨fun x => ?_, by rw [hS7, put_len, hS6, put_len, hS5, put_len, hS4, put_len, put_len], by rw [hS7, hS6, hS5, hS4]; rfl, by rw [hS7, hS6, hS5, hS4]; rfl, by rw [hS7, hS6, hS5, hS4]; rfl, by rw [hS7, hS6, hS5, hS4]; rfl⟩
      rw [hS7, at_put hp6]
      by_cases xp : x = p
      · subst xp
        rw [if_pos rfl, hp]
        simp only [Option.map_some]
        unfold linkN
        simp [hpc, hK, pv]
      · rw [if_neg xp, hS6, at_put hp5, if_neg xp, hS5, at_put hc4]
        by_cases xc : x = c
        · subst xc
          rw [if_pos rfl, hc]
          simp only [Option.map_some]
          unfold linkN
          simp [hK, pv, hO, hlast, fun e : x = p => xp e]
        · rw [if_neg xc, hS4, at_put (by rw [at_put hc, if_pos rfl]), if_neg xc, at_put hc, if_neg xc]
          cases S.at x with
          | none => rfl
          | some n => simp [linkN, xc, xp, hK, pv]
    have hl7 := hL' S7 hlk
    have hc7 : S7.at c = some { nc with parent := S.hd p, next := 0, prev := np.last } := by rw [hS7, at_put hp6, if_neg (fun e => hpc e.symm)]; exact hc6
    have HT7 := Lib.hid hT7
    have HC7 := Lib.hid hch7
    clear hT7 hch7 HT6 o7 o5 x5
    generalize w6.setCell ⟨g, p * 10 + 1 + 5, none⟩ (.int .i64 (S.hd c)) = w7 at *
  case' some q =>
    rw [hq, show hO S (some q) = S.hd q from rfl] at hlast
    rw [hlast] at o7
    have hqm : q ∈ K p := List.mem_of_getLast? hq
    have hqc : q ≠ c := fun e => hdet p (e ▸ hqm)
    have hqp : q ≠ p := fun e => by have := hL.dep p q hqm; rw [e] at this; omega
    obtain ⟨nq, hnq⟩ := Option.isSome_iff_exists.1 (hL.kin p q hqm).2
    have hq6 : S6.at q = some nq := by rw [hS6, at_put hp5, if_neg hqp, hS5, at_put hc4, if_neg hqc, hS4, at_put (by rw [at_put hc, if_pos rfl]), if_neg hqc, at_put hc, if_neg hqc]; exact hnq
    have hhd6 : S6.hd q = S.hd q := by rw [hS6, hS5, hS4]; rfl
    have hne : ¬ S.hd q = 0 := by have := (hd_ok hL hnq).2; omega
    have hne2 : (S.hd q == 0) = false := by simpa using hne
    have HQ := Lib.hid (at_some HT6.out (S.hd q) (hd_ok hL hnq).1 (by rw [← hhd6]; exact ix_hd HT6.out.few (at_slot hq6)))
    go_wp2_with fail
    refine HQ.out.mono ?_
    rintro e w6' ⟨rfl, hb6⟩
    have hT6' := HT6.out.below hb6
    have r8 := nd_cell hT6' hq6 8 (by omega)
    simp only [ndC, List.getElem?_cons_succ, List.getElem?_cons_zero] at r8
    have y8 := nd_free hT6' (q * 10 + 1 + 8)
    have HT6' := Lib.hid hT6'
    clear hT6'
    go_upto_region 11 with fail
    have hT7 := HT6'.out.setF (n' := { nq with next := S.hd c }) hq6 8 (.int .i64 (S.hd c)) (by omega) rfl rfl rfl
    have hch7 : Chg (fun k => k = g) w6 (w6'.setCell ⟨g, q * 10 + 1 + 8, none⟩ (.int .i64 (S.hd c))) := (Chg.of_below (F := fun k => k = g) hb6).setCell ⟨g, q * 10 + 1 + 8, none⟩ (fun _ => (rfl : g = g)) _
    obtain ⟨S7, hS7⟩ : ∃ S7, S7 = S6.put q { nq with next := S.hd c } := ⟨_, rfl⟩
    rw [← hS7] at hT7
    have hlen : (K p).length ≠ 0 := fun e => by rw [List.length_eq_zero_iff.1 e] at hq; cases hq
    have hlk : Linked S S7 (K p) p (K p).length c := by
      refine ⟨fun x => ?_, by rw [hS7, put_len, hS6, put_len, hS5, put_len, hS4, put_len, put_len], by rw [hS7, hS6, hS5, hS4]; rfl, by rw [hS7, hS6, hS5, hS4]; rfl, by rw [hS7, hS6, hS5, hS4]; rfl, by rw [hS7, hS6, hS5, hS4]; rfl⟩
      rw [hS7, at_put hq6]
      by_cases xq : x = q
      · subst xq
        rw [if_pos rfl, hnq]
        simp only [Option.map_some]
        unfold linkN
        simp [hqc, hqp, pv_last, hq]
      · have xq2 : ¬ q = x := fun e => xq e.symm
        rw [if_neg xq, hS6, at_put hp5]
        by_cases xp : x = p
        · subst xp
          rw [if_pos rfl, hp]
          simp only [Option.map_some]
          unfold linkN
          simp [hpc, pv_last, hq, hlen, xq2]
        · rw [if_neg xp, hS5, at_put hc4]
          by_cases xc : x = c
          · subst xc
            rw [if_pos rfl, hc]
            simp only [Option.map_some]
            unfold linkN
            simp [pv_last, hq, hO, hlast, xp]
          · rw [if_neg xc, hS4, at_put (by rw [at_put hc, if_pos rfl]), if_neg xc, at_put hc, if_neg xc]
            cases S.at x with
            | none => rfl
            | some n => simp [linkN, xc, xp, pv_last, hq, xq2]
    have hl7 := hL' S7 hlk
    have hc7 : S7.at c = some { nc with parent := S.hd p, next := 0, prev := np.last } := by rw [hS7, at_put hq6, if_neg (fun e => hqc e.symm)]; exact hc6
    have HT7 := Lib.hid hT7
    have HC7 := Lib.hid hch7
    clear hT7 hch7 HT6 HT6' o7 o5 x5 r8 y8 HQ hne hne2
    generalize w6'.setCell ⟨g, q * 10 + 1 + 8, none⟩ (.int .i64 (S.hd c)) = w7 at *
  all_goals
    clear hq hlast
    try clear hK
    try clear hlen
    have HR := Lib.hid (show Blk w7 w.heap.size (recC 0 0 0 0 0 0 [] [] false 0 0) 152 from by
      have g0 : ¬ w.heap.size = g := by have := (HT.out.slots.lt g rfl).2; omega
      have k0 := Blk.new w (recC 0 0 0 0 0 0 [] [] false 0 0) 152
      exact ((((((k0.below hb2).below hb3).chg HC4.out g0).chg HC5.out g0).chg HC6.out g0).chg HC7.out g0))
    have HI := Lib.hid (fun wx (hb : Below w7.heap.size w7 wx) => index_kid (HT7.out.below hb) hl7 p (K p).length c (by unfold linkK; rw [if_pos rfl, ins_at _ _ _ _ (Nat.le_refl _), if_neg (by omega), if_pos rfl]))
    rw [hlk.hd] at HI
    have c7 := nd_cell HT7.out hc7 7 (by omega)
    simp only [ndC, List.getElem?_cons_succ, List.getElem?_cons_zero] at c7
    have g7 := (HT7.out.slots.lt g rfl).2
    have hne := stb_ne w7
    have x7 : ∀ x : InS (StB w7), x.w.cell? ⟨g, c * 10 + 1 + 7, none⟩ = some (.int .i64 np.last) := fun x => ((bcell x.h).1 _ _ g7).trans c7
    refine reg_b (.int .i64 ((K p).length : Int) |> fun v _ => v) 11 (by kernel_rfl) (by kernel_rfl) ?_
    simp only [List.take_succ_cons, List.take_zero, List.drop_succ_cons, List.drop_zero]
    repeat (first
      | (refine m_held (by rfl) (by rfl) (fun K hK => ?_); go_big_quiet_step (fail); refine wpQuiet_nil ?_; refine hK.out _ ?_; clear hK K)
      | (refine m_skip (by rfl) ?_; simp only [Act.put, List.setIfInBounds_toArray, List.set_cons_zero, List.set_cons_succ]))
    refine m_call (.int .i64 ((K p).length : Int)) rfl (by rfl) (by rfl) (fun w => by go_simp; exact ⟨rfl, rfl⟩) ?_ ?_
    · intro X w2 h2
      refine (HI.out _ h2).mono ?_
      rintro e w3 ⟨rfl, hb⟩
      exact ⟨rfl, RowKit.Below.trans h2 (hb.mono h2.size)⟩
    simp only [Act.put, List.setIfInBounds_toArray, List.set_cons_zero, List.set_cons_succ]
    repeat (first
      | (refine m_held (by rfl) (by rfl) (fun K hK => ?_); go_big_quiet_step (fail); refine wpQuiet_nil ?_; refine hK.out _ ?_; clear hK K)
      | (refine m_skip (by rfl) ?_; simp only [Act.put, List.setIfInBounds_toArray, List.set_cons_zero, List.set_cons_succ]))
    refine m_nil ?_
    intro w8 h8
    have k8 := HR.out.below h8
    obtain ⟨⟨q0, q1, q2, q3, q4, q5, q6, q7, q8, q9, q10⟩, zf⟩ := rec_cells k8
    clear HI hne x7
    go_wp2_with fail
    (try simp only [Exit.inBlock, Exit.then])
    have k9 := rec_set k8 1 (S.hd p) (S.hd c) np.last 0 ((K p).length : Int) ⟨#[]⟩ ⟨#[]⟩ false 0 0
    refine bodyPost_ret (v := .agg (recC 1 (S.hd p) (S.hd c) np.last 0 (K p).length [] [] false 0 0).toArray) (results_cell_row Tryz.results115 _ _ w.heap.size 152 _ (0, 0) _ ?_ k9 Tryz.underlying152 rfl infoRec) rfl ?_
    · rfl
    have HRC : ∀ {wf}, Chg (fun k => k = w.heap.size) w8 wf → TAt B R S7 (.slice (some ⟨g, 0, none⟩) S7.slots.length cap) fv wf ∧ Chg (fun k => k = g) w wf := fun {wf} hc => by
      refine ⟨(HT7.out.below h8).recd k8 hc, ?_⟩
      have e3 : Chg (fun k => k = g) w w3 := Chg.of_below hB3
      have e8 : Chg (fun k => k = g) w w8 := ((((e3.trans HC4.out (fun _ _ h => h)).trans HC5.out (fun _ _ h => h)).trans HC6.out (fun _ _ h => h)).trans HC7.out (fun _ _ h => h)).trans (Chg.of_below (F := fun k => k = g) h8) (fun _ _ h => h)
      exact e8.trans hc (fun i hi e => by omega)
    exact ⟨S7, hlk, rfl, HRC (rec_chg w8 w.heap.size _ _ _ _ _ _ _ _ _ _ _)⟩
end Go.Proofs.YtacdbnhnhdlmpaaGreatDoor.W
end
