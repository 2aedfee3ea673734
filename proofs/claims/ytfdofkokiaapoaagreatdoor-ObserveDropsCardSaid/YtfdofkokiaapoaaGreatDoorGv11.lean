/- Texts joined: WatC Rem Clear Del. -/
import Derived.Test.YtfdofkokiaapoaaGreatDoorGv10
import Derived.WalkSpells
import Derived.Test.YtfdofkokiaapoaaGreatDoorGv7
import Derived.Laws.IdiomCopy
import Derived.Test.YtfdofkokiaapoaaGreatDoorGv9
import Derived.Deep.RegionLaw
import Derived.Shelf.RegionOpenPlain
section
/- Watch of a target that is not watched yet; Take. -/
namespace Go.Proofs.YtfdofkokiaapoaaGreatDoor.W
open Go.RowKit
set_option linter.unusedVariables false
set_option linter.unusedSimpArgs false

def Ov.watch (z : Ov) (x : Wt) : Ov := { z with ws := z.ws ++ [x] }

set_option maxRecDepth 100000 in
set_option maxHeartbeats 8000000 in
theorem watch_new {B : Nat} {w0 w : World} {g zg zc : Nat} {nx : Int} {z1 z2 : List Oz} {z : Ov} {a b : Value} {l : List Ob} (h : All B w0 (stM g (.slice (some ⟨zg, 0, none⟩) (z1 ++ (z, a, b) :: z2).length zc) nx (z1 ++ (z, a, b) :: z2) ++ l) w)
    (hn : ∀ y ∈ z1, y.1.id ≠ z.id) (hl : (z1 ++ (z, a, b) :: z2).length ≤ 1000000) (t : Int) (at' da su ol : Bool) (hs : z.ws.length ≤ 100000) (hf : NoF z.ws) (hno : ∀ y ∈ z.ws, y.target ≠ t) :
    Calls Tryz.prog 26 #[.pointer (some ⟨g, 0, none⟩), .int .i64 z.id, .agg #[.int .i64 t, .bool true, .bool at', .bool da, .bool su, .bool ol, .slice none 0 0]] w fun e w' => ∃ a', e = .returned (.int .i64 0) ∧
      All B w0 (stM g (.slice (some ⟨zg, 0, none⟩) (z1 ++ (z, a, b) :: z2).length zc) nx (z1 ++ (z.watch ⟨t, true, at', da, su, ol, [], .slice none 0 0⟩, a', b) :: z2) ++ l) w' := by
  have hA1 := h.newBkA w.heap.size rfl [.int .i64 t, .bool true, .bool at', .bool da, .bool su, .bool ol, .slice none 0 0] 58
  have hbelow : Below w.heap.size w (w.alloc (.cells #[.int .i64 t, .bool true, .bool at', .bool da, .bool su, .bool ol, .slice none 0 0] 58)) := (Below.refl _ _).alloc (Nat.le_refl _) _
  generalize hgx : w.heap.size = gx at *
  change All B w0 _ (w.alloc (.cells #[.int .i64 t, .bool true, .bool at', .bool da, .bool su, .bool ol, .slice none 0 0] 58)) at hA1
  have HSz := Lib.hid (observer_at (z := (z, a, b)) hA1.tail hn hl)
  have kx : Blk _ _ _ _ := hA1.head
  have x1 := kx.cell 1
  have x6 := kx.cell 6
  have xf := kx.free 6
  simp only [List.getElem?_cons_zero, List.getElem?_cons_succ] at x1 x6
  have hA2 := hA1
  have hlen : z1.length * 4 + 4 ≤ (z1 ++ (z, a, b) :: z2).length * 4 := by simp; omega
  obtain ⟨⟨_, _, q2, _⟩, qf, hzlt, _, _, hw, _⟩ := om_cells hA2.tail
  have hO : Own _ 58 7 a z.ws.length (rows encW z.ws) := hw.1
  obtain ⟨aa, ac, rfl⟩ := own_shape hO
  have k2 : Blk _ _ _ _ := hA2.head
  have HI := Lib.hid (index_wt hO (fun y hy => ⟨_, _, _, (hf y hy).1⟩) (k2.cell 0) (by omega) hno)
  have hgxlt := k2.lt
  have HK := Lib.hid k2
  have H2 := Lib.hid hA2
  clear hA2 hA1 h hw hO k2 kx hn hno hl hbelow
  generalize hk : z1.length = k at *
  have HKk := Lib.hid hk
  clear hk
  generalize hN : (z1 ++ (z, Value.slice aa z.ws.length ac, b) :: z2).length = N at *
  have HN := Lib.hid hN
  clear hN
  go_enter Tryz.func26, Tryz.ntmps26
  go_wp2_with fail
  refine HSz.out.mono ?_
  rintro e w1 ⟨rfl, hw⟩
  rw [← hw]
  clear hw
  go_wp2_with fail
  refine (Tryz.slices_Clone_string_nil 0 0 _).mono ?_
  rintro e w1 ⟨rfl, hw⟩
  rw [hw]
  clear hw
  go_upto_region 7 with fail
  clear x1 x6 xf
  generalize w.alloc (.cells #[.int .i64 t, .bool true, .bool at', .bool da, .bool su, .bool ol, .slice none 0 0] 58) = w2 at *
  go_wp2_with fail
  refine HI.out.mono ?_
  rintro e w3 ⟨rfl, hb3⟩
  have HI := HK
  have hgx3 : gx < w3.heap.size := Nat.lt_of_lt_of_le hgxlt hb3.size
  have hzl3 : zg < w3.heap.size := Nat.lt_of_lt_of_le hzlt hb3.size
  have hA3 := (H2.out.still hb3)
  have k3 := HK.out.below hb3
  have p0 := k3.cell 0
  have p1 := k3.cell 1
  have p2 := k3.cell 2
  have p3 := k3.cell 3
  have p4 := k3.cell 4
  have p5 := k3.cell 5
  have p6 := k3.cell 6
  simp only [List.getElem?_cons_zero, List.getElem?_cons_succ] at p0 p1 p2 p3 p4 p5 p6
  have q3 := cell_keep hb3 q2
  have ea : ∀ o, (w3.alloc o).cell? ⟨zg, k * 4 + 2, none⟩ = some (.slice aa z.ws.length ac) := fun o => (World.cell?_alloc_lt _ _ _ hzl3).trans q3
  rw [stM_split] at hA3
  have hA4 : All B w0 (([bk gx [.int .i64 t, .bool true, .bool at', .bool da, .bool su, .bool ol, .slice none 0 0] 58, _, _] ++ obM z1) ++ wl _ z.ws :: rl b z.rs :: (obM z2 ++ l)) w3 := hA3
  have HA := Lib.hid (All.toSl _ hA4)
  have R2 := Lib.hid (show (rows encO (z1 ++ (z, Value.slice aa z.ws.length ac, b) :: z2))[k * 4 + 2]? = some (.slice aa z.ws.length ac) from by
    have := rows_at (enc := encO) encO_len _ z1.length (z, Value.slice aa z.ws.length ac, b) (get_mid z1 (z, Value.slice aa z.ws.length ac, b) z2) 2 (by decide)
    rw [HKk.out] at this
    exact this)
  have hkN := Lib.hid (show k * 4 + 2 < N * 4 from by omega)
  clear hA3 hA4 k3 HI H2 HK q2 hb3
  go_upto_region 10 with fail
  have T1 := Lib.hid ((HA.out.alloc (.cells #[.int .i64 t, .bool true, .bool at', .bool da, .bool su, .bool ol, .slice none 0 0] 58)).drew)
  have T2 := Lib.hid (own_at (w := (w3.alloc (.cells #[.int .i64 t, .bool true, .bool at', .bool da, .bool su, .bool ol, .slice none 0 0] 58)).drew) (g := w3.heap.size) (n := 1) (size := 7) (show Blk _ _ _ _ from Blk.new w3 [.int .i64 t, .bool true, .bool at', .bool da, .bool su, .bool ol, .slice none 0 0] 58) rfl (by omega))
  have T3 := Lib.hid (show ∀ u ∈ ([.int .i64 t, .bool true, .bool at', .bool da, .bool su, .bool ol, .slice none 0 0] : List Value), u.oneCell' = true from by intro u hu; simp only [List.mem_cons, List.not_mem_nil, or_false] at hu; rcases hu with rfl | rfl | rfl | rfl | rfl | rfl | rfl <;> rfl)
  go_region_law (refine step_append_all etW ([_, _, _] ++ obM z1) T1.out T2.out T3.out (by omega) (by omega) (by rfl) _ _ (by rfl) (by rfl) (by rfl) ?_; intro v' w5 hA5; have ho : Own _ _ _ _ _ _ := hA5.P (sl 58 7 v' (z.ws.length + 1) (rows encW z.ws ++ [.int .i64 t, .bool true, .bool at', .bool da, .bool su, .bool ol, .slice none 0 0])) (by simp); obtain ⟨va, vc, rfl⟩ := own_shape ho; have hr5 : Own _ _ _ _ _ _ := hA5.tail.tail.head; rw [HN.out] at hr5; have d1 := hr5.cellAt (k * 4 + 2) hkN.out; rw [R2.out] at d1; have df := hr5.frozenAt (k * 4 + 2); have HB := Lib.hid hA5; clear hA5 ho hr5)
  all_goals
    go_wp2_with fail
    go_ret
    have hkk := HKk.out
    subst hkk
    have e1 : rows encW (z.watch ⟨t, true, at', da, su, ol, [], .slice none 0 0⟩).ws = rows encW z.ws ++ [.int .i64 t, .bool true, .bool at', .bool da, .bool su, .bool ol, .slice none 0 0] := rows_snoc _ _
    have e2 : (z.watch ⟨t, true, at', da, su, ol, [], .slice none 0 0⟩).ws.length = z.ws.length + 1 := by simp [Ov.watch]
    have hnf : NoF (z.watch ⟨t, true, at', da, su, ol, [], .slice none 0 0⟩).ws := fun y hy => by
      simp only [Ov.watch, List.mem_append, List.mem_singleton] at hy
      rcases hy with hy | rfl
      · exact hf y hy
      · exact ⟨rfl, rfl⟩
    have h6 := HB.out
    rw [← e1, ← e2] at h6
    have h7 := All.toWl _ hnf h6
    have h8 := h7.tail
    rw [HN.out, e2] at h8
    exact ⟨.slice va (z.ws.length + 1) vc, rfl, om_set2 (z := z) (a := .slice aa z.ws.length ac) (z' := z.watch ⟨t, true, at', da, su, ol, [], .slice none 0 0⟩) h8 HN.out rfl rfl⟩

theorem perm_dlM (X Y Z : Ob) (P Q l : List Ob) : (X :: (P ++ (Z :: Y :: (Q ++ l)))).Perm (P ++ (Z :: X :: (Q ++ (Y :: l)))) :=
  List.perm_middle.symm.trans (List.Perm.append_left P ((List.Perm.swap Z X _).trans (.cons Z (.cons X List.perm_middle.symm))))

set_option maxRecDepth 100000 in
set_option maxHeartbeats 4000000 in
theorem take_ob {B : Nat} {w0 w : World} {g zg zc : Nat} {nx : Int} {z1 z2 : List Oz} {z : Ov} {a b : Value} {l : List Ob} (h : All B w0 (stM g (.slice (some ⟨zg, 0, none⟩) (z1 ++ (z, a, b) :: z2).length zc) nx (z1 ++ (z, a, b) :: z2) ++ l) w)
    (hn : ∀ y ∈ z1, y.1.id ≠ z.id) (hl : (z1 ++ (z, a, b) :: z2).length ≤ 1000000) :
    Calls Tryz.prog 14 #[.pointer (some ⟨g, 0, none⟩), .int .i64 z.id] w fun e w' => e = .returned (.tuple #[b, .int .i64 0]) ∧
      All B w0 (stM g (.slice (some ⟨zg, 0, none⟩) (z1 ++ (z, a, b) :: z2).length zc) nx (z1 ++ ({ z with rs := [] }, a, .slice none 0 0) :: z2) ++ (rl b z.rs :: l)) w' := by
  have HSz := Lib.hid (observer_at (z := (z, a, b)) h hn hl)
  obtain ⟨⟨_, _, _, q3⟩, qf, hzlt, _, _, _, hb⟩ := om_cells h
  obtain ⟨ba, bc, rfl⟩ := own_shape hb
  rw [stM_split] at h
  have h1 := (h.nil 86 11)
  have H := Lib.hid h1
  clear h h1 hb hn hl
  generalize hk : z1.length = k at *
  have HKk := Lib.hid hk
  clear hk
  generalize hN : (z1 ++ (z, a, Value.slice ba z.rs.length bc) :: z2).length = N at *
  have HN := Lib.hid hN
  clear hN
  go_enter Tryz.func14, Tryz.ntmps14
  go_wp2_with fail
  refine HSz.out.mono ?_
  rintro e w1 ⟨rfl, hw⟩
  rw [← hw]
  clear hw
  go_wp2_with fail
  go_ret2
  have hkk := HKk.out
  subst hkk
  refine ⟨rfl, ?_⟩
  refine om_set3 (z := z) (a := a) (b := .slice ba z.rs.length bc) (z' := { z with rs := [] }) ?_ HN.out rfl rfl
  have h2 := H.out
  exact h2.perm (perm_dlM _ _ _ _ _ _)
end Go.Proofs.YtfdofkokiaapoaaGreatDoor.W
end
section
/- The contracts of Remove, and of Insert where it refuses. -/
namespace Go.Proofs.YtfdofkokiaapoaaGreatDoor.W
open Go.RowKit
set_option linter.unusedVariables false
set_option linter.unusedSimpArgs false

theorem rc_one (w : World) (c : List Value) {B : Nat} (hB : B ≤ w.heap.size) (hc : c.length = 11) : RcAt (w.alloc (.cells c.toArray 86)) B (.slice (some ⟨w.heap.size, 0, none⟩) 1 1) [c] := by
  obtain ⟨h1, h2⟩ := own_at (n := 1) (size := 11) (Blk.new w c 86) (by omega) (by omega)
  refine ⟨by simpa using h1, ?_⟩
  rcases h2 with ⟨e, _⟩ | ⟨g', cap, cur, e, _, rest⟩
  · cases e
  · cases e; exact .inr ⟨w.heap.size, _, cur, rfl, hB, by simpa using rest⟩

set_option maxRecDepth 100000 in
set_option maxHeartbeats 4000000 in
theorem remove_top {B R g cap : Nat} {S : Tr} {fv : Value} {w : World} {K : Nat → List Nat} {d : Nat → Nat} (h : TAt B R S (.slice (some ⟨g, 0, none⟩) S.slots.length cap) fv w) (hL : Lk S K d) (c : Nat) (nc : Nd) (hc : S.at c = some nc) (hk : nc.kind ≠ 1) (hdet : ∀ q, c ∉ K q) :
    Calls Tryz.prog 30 #[.pointer (some ⟨R, 0, none⟩), .int .i64 (S.hd c)] w fun e w' => e = .returned (.tuple #[.slice none 0 0, .int .i64 0]) ∧ Below w.heap.size w w' := by
  have HC := Lib.hid (at_some h (S.hd c) (hd_ok hL hc).1 (hd_ix hL hc))
  have H0 := Lib.hid (fun wx (hb : Below w.heap.size w wx) => nd_cell (h.below hb) hc 0 (by omega))
  have H4 := Lib.hid (fun wx (hb : Below w.heap.size w wx) => nd_cell (h.below hb) hc 4 (by omega))
  simp only [ndC, List.getElem?_cons_succ, List.getElem?_cons_zero] at H0 H4
  rw [(hL.top c nc hc hdet).1] at H4
  have hk1 : (nc.kind == 1) = false := by simpa using hk
  clear h hL hc hdet
  go_enter Tryz.func30, Tryz.ntmps30
  go_wp2_with fail
  refine HC.out.mono ?_
  rintro e w1 ⟨rfl, hb1⟩
  have c0 := H0.out _ hb1
  have c4 := H4.out _ hb1
  go_wp2_with fail
  go_ret2
  exact ⟨rfl, hb1⟩

set_option maxRecDepth 100000 in
set_option maxHeartbeats 4000000 in
theorem remove_kid {B R g cap : Nat} {S : Tr} {fv : Value} {w : World} {K : Nat → List Nat} {d : Nat → Nat} (h : TAt B R S (.slice (some ⟨g, 0, none⟩) S.slots.length cap) fv w) (hL : Lk S K d) (q i c : Nat) (nc : Nd) (hc : S.at c = some nc) (hk : nc.kind ≠ 1) (hi : (K q)[i]? = some c) :
    Calls Tryz.prog 30 #[.pointer (some ⟨R, 0, none⟩), .int .i64 (S.hd c)] w fun e w' => ∃ S' v, Cutd S S' (K q) q i c ∧ e = .returned (.tuple #[v, .int .i64 0]) ∧ RcAt w' w.heap.size v [recC 2 (S.hd q) (S.hd c) nc.prev nc.next i [] [] false 0 0] ∧
      TAt B R S' (.slice (some ⟨g, 0, none⟩) S'.slots.length cap) fv w' ∧ Chg (fun k => k = g) w w' := by
  obtain ⟨nq, hnq⟩ := Option.isSome_iff_exists.1 (hL.kin q c (List.mem_of_getElem? hi)).1
  have hq0 : ¬ S.hd q = 0 := by have := (hd_ok hL hnq).2; omega
  have hq1 : (S.hd q == 0) = false := by simpa using hq0
  have HC := Lib.hid (at_some h (S.hd c) (hd_ok hL hc).1 (hd_ix hL hc))
  have H0 := Lib.hid (fun wx (hb : Below w.heap.size w wx) => nd_cell (h.below hb) hc 0 (by omega))
  have H4 := Lib.hid (fun wx (hb : Below w.heap.size w wx) => nd_cell (h.below hb) hc 4 (by omega))
  simp only [ndC, List.getElem?_cons_succ, List.getElem?_cons_zero] at H0 H4
  rw [(hL.kid q i c nc hi hc).1] at H4
  have HU := Lib.hid (fun wx (hb : Below w.heap.size w wx) => unlink_any (h.below hb) hL q i c nc hi hc)
  have hk1 : (nc.kind == 1) = false := by simpa using hk
  clear h hL hc hi hnq
  go_enter Tryz.func30, Tryz.ntmps30
  go_wp2_with fail
  refine HC.out.mono ?_
  rintro e w1 ⟨rfl, hb1⟩
  have c0 := H0.out _ hb1
  have c4 := H4.out _ hb1
  go_wp2_with fail
  refine (HU.out _ hb1).mono ?_
  rintro e w7 ⟨S1, hcut, rfl, hT7, hC7⟩
  have HT7 := Lib.hid hT7
  have HC7 := Lib.hid hC7
  have hs7 := Nat.le_trans hb1.size hC7.size
  clear hT7 hC7 HU c0 c4 H0 H4
  simp only [recC, strV]
  go_wp2_with fail
  go_ret2
  exact ⟨S1, _, hcut, rfl, rc_one w7 _ hs7 rfl, HT7.out.below ((Below.refl _ w7).alloc (Nat.le_refl _) _), ((Chg.of_below hb1).trans HC7.out (fun _ _ h => h)).alloc _⟩

set_option maxRecDepth 100000 in
set_option maxHeartbeats 4000000 in
theorem insert_no {B R g cap : Nat} {S : Tr} {fv : Value} {w : World} {K : Nat → List Nat} {d : Nat → Nat} (h : TAt B R S (.slice (some ⟨g, 0, none⟩) S.slots.length cap) fv w) (hL : Lk S K d) (p c : Nat) (o : Option Nat) (np nc : Nd) (hp : S.at p = some np) (hc : S.at c = some nc) (ho : ∀ b, o = some b → (S.at b).isSome = true)
    (hmay : mayB S K d p c np nc = false) :
    Calls Tryz.prog 23 #[.pointer (some ⟨R, 0, none⟩), .int .i64 (S.hd p), .int .i64 (S.hd c), .int .i64 (hO S o)] w fun e w' => e = .returned (.tuple #[.slice none 0 0, .int .i64 10]) ∧ Below w.heap.size w w' := by
  have HP := Lib.hid (fun wx (hb : Below w.heap.size w wx) => at_some (h.below hb) (S.hd p) (hd_ok hL hp).1 (hd_ix hL hp))
  have HC := Lib.hid (fun wx (hb : Below w.heap.size w wx) => at_some (h.below hb) (S.hd c) (hd_ok hL hc).1 (hd_ix hL hc))
  have HM := Lib.hid (fun wx (hb : Below w.heap.size w wx) => may_any (h.below hb) hL p c np nc hp hc)
  rw [hmay] at HM
  cases o with
  | none =>
    rw [show hO S none = 0 from rfl]
    clear h hL hp hc hmay ho
    go_enter Tryz.func23, Tryz.ntmps23
    go_wp2_with fail
    refine (HP.out _ (Below.refl _ _)).mono ?_
    rintro e w1 ⟨rfl, hb1⟩
    go_wp2_with fail
    refine (HC.out _ hb1).mono ?_
    rintro e w2 ⟨rfl, hb2⟩
    have hB2 := bthen hb1 hb2
    go_wp2_with fail
    refine (HM.out _ hB2).mono ?_
    rintro e w3 ⟨rfl, hb3⟩
    have hB3 := bthen hB2 hb3
    go_wp2_with fail
    go_ret2
    exact ⟨rfl, hB3⟩
  | some b =>
    obtain ⟨nb, hb⟩ := Option.isSome_iff_exists.1 (ho b rfl)
    have HB := Lib.hid (fun wx (hb' : Below w.heap.size w wx) => at_some (h.below hb') (S.hd b) (hd_ok hL hb).1 (hd_ix hL hb))
    have hb0 : ¬ S.hd b = 0 := by have := (hd_ok hL hb).2; omega
    have hb1' : (S.hd b == 0) = false := by simpa using hb0
    rw [show hO S (some b) = S.hd b from rfl]
    clear h hL hp hc hmay ho hb
    go_enter Tryz.func23, Tryz.ntmps23
    go_wp2_with fail
    refine (HP.out _ (Below.refl _ _)).mono ?_
    rintro e w1 ⟨rfl, hb1⟩
    go_wp2_with fail
    refine (HC.out _ hb1).mono ?_
    rintro e w2 ⟨rfl, hb2⟩
    have hB2 := bthen hb1 hb2
    go_wp2_with fail
    refine (HB.out _ hB2).mono ?_
    rintro e w2' ⟨rfl, hb2'⟩
    have hB2' := bthen hB2 hb2'
    go_wp2_with fail
    refine (HM.out _ hB2').mono ?_
    rintro e w3 ⟨rfl, hb3⟩
    have hB3 := bthen hB2' hb3
    go_wp2_with fail
    go_ret2
    exact ⟨rfl, hB3⟩

set_option maxRecDepth 100000 in
set_option maxHeartbeats 4000000 in
theorem insert_far {B R g cap : Nat} {S : Tr} {fv : Value} {w : World} {K : Nat → List Nat} {d : Nat → Nat} (h : TAt B R S (.slice (some ⟨g, 0, none⟩) S.slots.length cap) fv w) (hL : Lk S K d) (p c : Nat) (o : Option Nat) (np nc : Nd) (hp : S.at p = some np) (hc : S.at c = some nc) (ho : ∀ b, o = some b → b ∈ K p)
    (hmay : mayB S K d p c np nc = true) (hdep : 128 < d p + hgt K (128 - d c) c) :
    Calls Tryz.prog 23 #[.pointer (some ⟨R, 0, none⟩), .int .i64 (S.hd p), .int .i64 (S.hd c), .int .i64 (hO S o)] w fun e w' => e = .returned (.tuple #[.slice none 0 0, .int .i64 5]) ∧ Below w.heap.size w w' := by
  cases o with
  | none => exact insert_deep h hL p c np nc hp hc hmay hdep
  | some b =>
    have HP := Lib.hid (fun wx (hb : Below w.heap.size w wx) => at_some (h.below hb) (S.hd p) (hd_ok hL hp).1 (hd_ix hL hp))
    have HC := Lib.hid (fun wx (hb : Below w.heap.size w wx) => at_some (h.below hb) (S.hd c) (hd_ok hL hc).1 (hd_ix hL hc))
    have HM := Lib.hid (fun wx (hb : Below w.heap.size w wx) => may_any (h.below hb) hL p c np nc hp hc)
    rw [hmay] at HM
    have HD := Lib.hid (fun wx (hb : Below w.heap.size w wx) => depth_any (h.below hb) hL p np hp)
    have HH := Lib.hid (fun wx (hb : Below w.heap.size w wx) => height_any hL (128 - d c) c nc hc rfl wx (h.below hb))
    have hhc := hgt_le K (128 - d c) c
    have hlow := hL.low p
    have hbm := ho b rfl
    obtain ⟨nb, hb⟩ := Option.isSome_iff_exists.1 (hL.kin p b hbm).2
    obtain ⟨jb, hjb⟩ := List.mem_iff_getElem?.1 hbm
    have hbp : nb.parent = S.hd p := (hL.kid p jb b nb hjb hb).1
    have HB := Lib.hid (fun wx (hb' : Below w.heap.size w wx) => at_some (h.below hb') (S.hd b) (hd_ok hL hb).1 (hd_ix hL hb))
    have HB4 := Lib.hid (fun wx (hb' : Below w.heap.size w wx) => nd_cell (h.below hb') hb 4 (by omega))
    simp only [ndC, hbp] at HB4
    have hb0 : ¬ S.hd b = 0 := by have := (hd_ok hL hb).2; omega
    have hb1' : (S.hd b == 0) = false := by simpa using hb0
    rw [show hO S (some b) = S.hd b from rfl]
    clear h hL hp hc hmay ho hb hbp hjb hbm
    generalize hgt K (128 - d c) c = hc1 at *
    have d5 : decide ((128 : Int) < (d p : Int) + (hc1 : Int)) = true := by simp; omega
    go_enter Tryz.func23, Tryz.ntmps23
    go_wp2_with fail
    refine (HP.out _ (Below.refl _ _)).mono ?_
    rintro e w1 ⟨rfl, hb1⟩
    go_wp2_with fail
    refine (HC.out _ hb1).mono ?_
    rintro e w2 ⟨rfl, hb2⟩
    have hB2 := bthen hb1 hb2
    go_wp2_with fail
    refine (HB.out _ hB2).mono ?_
    rintro e w2' ⟨rfl, hb2'⟩
    have hB2' := bthen hB2 hb2'
    go_wp2_with fail
    refine (HM.out _ hB2').mono ?_
    rintro e w3 ⟨rfl, hb3⟩
    have hB3 := bthen hB2' hb3
    go_wp2_with fail
    refine (HB.out _ hB3).mono ?_
    rintro e w3' ⟨rfl, hb3'⟩
    have hB3' := bthen hB3 hb3'
    have cb4 := HB4.out _ hB3'
    simp only [List.getElem?_cons_succ, List.getElem?_cons_zero] at cb4
    go_wp2_with fail
    clear cb4
    refine (HD.out _ hB3').mono ?_
    rintro e w4 ⟨rfl, hb4⟩
    have hB4 := bthen hB3' hb4
    go_wp2_with fail
    refine (HH.out _ hB4).mono ?_
    rintro e w5 ⟨rfl, hb5⟩
    have hB5 := bthen hB4 hb5
    go_wp2_with fail
    go_ret2
    exact ⟨rfl, hB5⟩
end Go.Proofs.YtfdofkokiaapoaaGreatDoor.W
end
section
/- clear on the end of a row that a slice owns; a slice cut short: as objects that lie apart. -/
namespace Go.Proofs.YtfdofkokiaapoaaGreatDoor.W
open Go.RowKit
set_option linter.unusedVariables false

theorem All.setSls {B : Nat} {w0 : World} (l1 : List Ob) {l2 : List Ob} {g n cap size : Nat} {e : TypeId} : ∀ (vs : List Value) (o : Nat) {w : World} {xs : List Value}, All B w0 (l1 ++ sl e size (.slice (some ⟨g, 0, none⟩) n cap) n xs :: l2) w →
    All B w0 (l1 ++ sl e size (.slice (some ⟨g, 0, none⟩) n cap) n (setAll xs o vs) :: l2) (w.setCells g o vs)
  | [], _, _, _, h => h
  | v :: vs, o, _, _, h => All.setSls l1 vs (o + 1) (h.setSl l1 o v)
theorem setAll_len : ∀ (vs xs : List Value) (o : Nat), (setAll xs o vs).length = xs.length
  | [], _, _ => rfl
  | v :: vs, xs, o => by simp only [setAll]; rw [setAll_len]; simp
theorem setAll_take : ∀ (vs xs : List Value) (o : Nat), (setAll xs o vs).take o = xs.take o
  | [], _, _ => rfl
  | v :: vs, xs, o => by
    simp only [setAll]
    have h := setAll_take vs (xs.set o v) (o + 1)
    have h2 : ∀ (a b : List Value), a.take (o + 1) = b.take (o + 1) → a.take o = b.take o := fun a b h => by
      have := congrArg (List.take o) h
      simpa [List.take_take] using this
    rw [h2 _ _ h, List.take_set_of_le (Nat.le_refl _)]
theorem run_clear_all {P : Program} {t e ty : TypeId} {size : Nat} (ht : P.underlying t = some (.slice e)) {z : Value} (hv : ∀ w, (zeroValue e).run P w = .ok z w) (hz : z.cells.size = size) (hpos : 0 < size) (h1 : ∀ u ∈ z.cells.toList, u.oneCell' = true)
    {B : Nat} {w0 w : World} (l1 : List Ob) {l2 : List Ob} {g n cap i : Nat} {xs : List Value} (h : All B w0 (l1 ++ sl e size (.slice (some ⟨g, 0, none⟩) n cap) n xs :: l2) w) (hi : i < n) (c : Nat) :
    ∃ w' zs, (Builtin.clear_ #[t] ty #[.slice (some ⟨g, i * size, none⟩) (n - i) c]).run P w = .ok (.tuple #[]) w' ∧ zs.length = (n - i) * size ∧ All B w0 (l1 ++ sl e size (.slice (some ⟨g, 0, none⟩) n cap) n (setAll xs (i * size) zs) :: l2) w' := by
  have hown : Own w e size (.slice (some ⟨g, 0, none⟩) n cap) n xs := h.mid
  have hlen : xs.length = n * size := hown.1
  have hzl : (Builtin.zeroCells z.cells (n - i)).toList.length = (n - i) * size := by simp [Builtin.zeroCells, hz]
  have hmul : (n - i) * size + i * size = n * size := by rw [← Nat.add_mul]; congr 1; omega
  have hst := run_storeCells_cells (P := P) g (i * size) (Builtin.zeroCells z.cells (n - i)).toList 0 w
    (fun j hj => by
      rw [hown.cellAt (i * size + 0 + j) (by rw [hzl] at hj; omega), List.getElem?_eq_getElem (by rw [hzl] at hj; omega)]
      rfl)
    (fun j hj => hown.frozenAt _)
    (fun u hu => by
      rw [Builtin.zeroCells, hz] at hu
      simp only [Array.toList_map, Array.toList_range, List.mem_map, List.mem_range] at hu
      obtain ⟨k, hk, rfl⟩ := hu
      have hk' : k % size < z.cells.size := by rw [hz]; exact Nat.mod_lt _ hpos
      rw [getElem!_pos z.cells _ hk']
      exact h1 _ (by simp))
  rw [Nat.add_zero] at hst
  refine ⟨_, (Builtin.zeroCells z.cells (n - i)).toList, ?_, hzl, All.setSls l1 _ _ h⟩
  obtain ⟨m, hm⟩ : ∃ m, n - i = m + 1 := ⟨n - i - 1, by omega⟩
  rw [hm] at hst ⊢
  simp [Builtin.clear_, run_underlying ht, hv, hst]
theorem wpList_clear_all {P : Program} {t e : TypeId} {size : Nat} (ht : P.underlying t = some (.slice e)) {z : Value} (hv : ∀ w, (zeroValue e).run P w = .ok z w) (hz : z.cells.size = size) (hpos : 0 < size) (h1 : ∀ u ∈ z.cells.toList, u.oneCell' = true)
    {B : Nat} {w0 w : World} (l1 : List Ob) {l2 : List Ob} {g n cap i : Nat} {xs : List Value} (h : All B w0 (l1 ++ sl e size (.slice (some ⟨g, 0, none⟩) n cap) n xs :: l2) w) (hi : i < n)
    {ops : Array Oper} {rest : List Oper} {o : Oper} {a : Act} {Q : Exit → Act → World → Prop} (hgd : o.guard = none) (s : Operand) (ho : o.op = .call { callee := .builtin .clear, args := #[s], argTypes := #[t] }) {c : Nat} (hd : a.eval s = .slice (some ⟨g, i * size, none⟩) (n - i) c)
    (hc : ∀ w' zs, All B w0 (l1 ++ sl e size (.slice (some ⟨g, 0, none⟩) n cap) n (setAll xs (i * size) zs) :: l2) w' → wpList P ops Q rest (a.put o.dst (.tuple #[])) w') : wpList P ops Q (o :: rest) a w :=
  wpList_plain hgd fun K hK => by
    obtain ⟨w', zs, hr, _, h2⟩ := run_clear_all (P := P) (ty := o.type) ht hv hz hpos h1 l1 h hi c
    unfold Oper.wp execOp
    simp only [ho, resolve, invoke, builtin, Sem.run_bind, Sem.run_pure, Result.andThen_ok, List.map_toArray, List.map_cons, List.map_nil, hd, hr]
    exact hK _ _ (hc w' zs h2)
/-- a slice cut short -/
theorem own_trunc {w : World} {e : TypeId} {size g n cap i : Nat} {xs : List Value} (h : Own w e size (.slice (some ⟨g, 0, none⟩) n cap) n xs) (hi : i ≤ n) : Own w e size (.slice (some ⟨g, 0, none⟩) i cap) i (xs.take (i * size)) := by
  obtain ⟨h1, h2⟩ := h
  have hmul : i * size ≤ n * size := Nat.mul_le_mul_right _ hi
  refine ⟨by rw [List.length_take, h1]; exact Nat.min_eq_left hmul, ?_⟩
  rcases h2 with ⟨h', _⟩ | ⟨g', cap', cur, h', hb, hg, hc, hm, hs, ht⟩
  · simp at h'
  · simp only [Value.slice.injEq, Option.some.injEq, Addr.mk.injEq, and_true, true_and] at h'
    obtain ⟨rfl, rfl⟩ := h'
    refine .inr ⟨g, cap, cur, rfl, hb, hg, by omega, hm, hs, ?_⟩
    rw [← ht, List.take_take, Nat.min_eq_left hmul]
theorem All.trunc {B : Nat} {w0 w : World} (l1 : List Ob) {l2 : List Ob} {g n cap size i : Nat} {e : TypeId} {xs : List Value} (h : All B w0 (l1 ++ sl e size (.slice (some ⟨g, 0, none⟩) n cap) n xs :: l2) w) (hi : i ≤ n) :
    All B w0 (l1 ++ sl e size (.slice (some ⟨g, 0, none⟩) i cap) i (xs.take (i * size)) :: l2) w :=
  h.step l1 (o' := sl e size (.slice (some ⟨g, 0, none⟩) i cap) i (xs.take (i * size))) (own_trunc h.mid hi) (Chg.refl _ _) (fun k hk => .inl hk)
theorem rows_take {α : Type} {enc : α → List Value} {m : Nat} (he : ∀ v, (enc v).length = m) (l : List α) (i : Nat) : (rows enc l).take (i * m) = rows enc (l.take i) := by
  induction l generalizing i with
  | nil => simp [rows]
  | cons x l ih =>
    cases i with
    | zero => simp [rows]
    | succ i =>
      simp only [rows, List.take_succ_cons]
      rw [Nat.succ_mul, Nat.add_comm, ← he x, List.take_length_add_append, he, ih]
end Go.Proofs.YtfdofkokiaapoaaGreatDoor.W
end
section
/- The contract of slices.Delete of one attribute from a slice of the call's own. -/
namespace Go.Proofs.YtfdofkokiaapoaaGreatDoor.W
open Go.RowKit
set_option linter.unusedVariables false
set_option linter.unusedSimpArgs false

theorem setAll_at : ∀ (vs xs : List Value) (o : Nat), o + vs.length ≤ xs.length → setAll xs o vs = xs.take o ++ vs ++ xs.drop (o + vs.length)
  | [], xs, o, _ => by simp [setAll]
  | v :: vs, xs, o, h => by
    rw [List.length_cons] at h
    show setAll (xs.set o v) (o + 1) vs = _
    rw [setAll_at vs (xs.set o v) (o + 1) (by rw [List.length_set]; omega)]
    rw [List.take_add_one, List.getElem?_set_self (by omega), List.take_set_of_le (Nat.le_refl _), List.drop_set_of_lt (by omega), List.length_cons, show o + 1 + vs.length = o + (vs.length + 1) by omega]
    simp
theorem attrC_take (l : List Atr) (i : Nat) : (attrC l).take (2 * i) = attrC (l.take i) := by
  induction l generalizing i with
  | nil => simp [attrC]
  | cons x l ih =>
    cases i with
    | zero => simp [attrC]
    | succ i =>
      have := ih i
      show (atC x ++ attrC l).take (2 * (i + 1)) = atC x ++ attrC (l.take i)
      rw [← this, show 2 * (i + 1) = (atC x).length + 2 * i by show _ = 2 + _; omega, List.take_length_add_append]
theorem attrC_drop (l : List Atr) (i : Nat) : (attrC l).drop (2 * i) = attrC (l.drop i) := by
  induction l generalizing i with
  | nil => simp [attrC]
  | cons x l ih =>
    cases i with
    | zero => simp
    | succ i =>
      have := ih i
      show (atC x ++ attrC l).drop (2 * (i + 1)) = attrC (l.drop i)
      rw [← this, show 2 * (i + 1) = (atC x).length + 2 * i by show _ = 2 + _; omega, List.drop_length_add_append]
theorem attrC_app (a b : List Atr) : attrC (a ++ b) = attrC a ++ attrC b := by unfold attrC; simp
theorem all_own {B : Nat} {w0 w : World} {l : List Ob} {e : TypeId} {size g cap n : Nat} {xs : List Value} (h : All B w0 (sl e size (.slice (some ⟨g, 0, none⟩) n cap) n xs :: l) w) : w.ownsRow B e size (.slice (some ⟨g, 0, none⟩) n cap) n xs := by
  have hO : Own _ _ _ _ _ _ := h.head
  obtain ⟨h1, h2⟩ := hO
  refine ⟨h1, ?_⟩
  have hb := h.base _ (List.Mem.head _) g rfl
  rcases h2 with ⟨e, _⟩ | ⟨g', cap', cur, e, _, rest⟩
  · cases e
  · cases e; exact .inr ⟨g, _, cur, rfl, hb, rest⟩

theorem zeroAttr : ∀ w, (zeroValue 118).run Tryz.prog w = .ok (.agg #[.string ⟨#[]⟩, .string ⟨#[]⟩]) w := fun w => by
  first | exact Tryz.zeroValue118 w | (simp [Tryz.zeroValue118])

theorem zA_size : (Value.agg #[.string ⟨#[]⟩, .string ⟨#[]⟩]).cells.size = 2 := rfl
theorem zA_one : ∀ u ∈ (Value.agg #[.string ⟨#[]⟩, .string ⟨#[]⟩]).cells.toList, u.oneCell' = true := by intro u hu; simp [Value.cells] at hu; subst hu; rfl

set_option maxRecDepth 100000 in
set_option maxHeartbeats 4000000 in
theorem delete_attr {B : Nat} {w0 w : World} {g cap : Nat} {l : List Atr} {rest : List Ob} (h : All B w0 (sl 118 2 (.slice (some ⟨g, 0, none⟩) l.length cap) l.length (attrC l) :: rest) w) (i : Nat) (hi : i < l.length) (hl : l.length ≤ 1000) :
    Calls Tryz.prog 71 #[.slice (some ⟨g, 0, none⟩) l.length cap, .int .i64 (i : Int), .int .i64 ((i : Int) + 1)] w fun e w' => e = .returned (.slice (some ⟨g, 0, none⟩) (l.length - 1) cap) ∧
      All B w0 (sl 118 2 (.slice (some ⟨g, 0, none⟩) (l.length - 1) cap) (l.length - 1) (attrC (l.eraseIdx i)) :: rest) w' := by
  obtain ⟨i0, hi0, hz0, hz1, hz2⟩ := info_parts infoA
  have hO : Own _ _ _ _ _ _ := h.head
  have hA := attrC_len l
  have hcap : l.length ≤ cap ∧ cap ≤ maxLen := by
    rcases hO.2 with ⟨e, _⟩ | ⟨g', cap', cur, e, _, _, hc, hm, _⟩
    · cases e
    · cases e; exact ⟨hc, hm⟩
  have hcm : cap ≤ 9223372036854775807 := by have := hcap.2; unfold maxLen at this; omega
  have hcl := hcap.1
  obtain ⟨news, hnews⟩ : ∃ news, news = (attrC l).drop (2 * (i + 1)) := ⟨_, rfl⟩
  have hlen : news.length = 2 * (l.length - (i + 1)) := by rw [hnews, List.length_drop, hA]; omega
  have hdr := h.drew
  have hOd : Own w.drew _ _ _ _ _ := hdr.head
  obtain ⟨A, hA1, hsrc⟩ : ∃ A : Addr, (if cap = i + 1 then some (⟨g, 0, none⟩ : Addr) else some ⟨g, (i + 1) * 2, none⟩) = some A ∧ Hid (∀ t u, news[t]? = some u → w.drew.cell? (A.add t) = some u) := by
    by_cases hc : cap = i + 1
    · refine ⟨⟨g, 0, none⟩, by simp [hc], Lib.hid fun t u hu => ?_⟩
      have h0 : news.length = 0 := by rw [hlen]; omega
      rw [List.length_eq_zero_iff.1 h0] at hu
      simp at hu
    · refine ⟨⟨g, (i + 1) * 2, none⟩, by simp [hc], Lib.hid fun t u hu => ?_⟩
      rw [hnews, List.getElem?_drop] at hu
      have := own_news hOd _ u hu
      rw [Go.WideShapes.add_plain] at this ⊢
      rw [show (i + 1) * 2 + t = 0 + (2 * (i + 1) + t) by omega]
      exact this
  have s1 := Lib.hid (show news.length = (l.length - (i + 1)) * 2 by rw [hlen]; omega)
  have s2 := Lib.hid (show ∀ u ∈ news, u.oneCell' = true from fun u hu => attrC_one l u (by rw [hnews] at hu; exact List.mem_of_mem_drop hu))
  have s3 := Lib.hid (show ∀ t, t < news.length → (w.drew.cell? ⟨g, 0 + i * 2 + t, none⟩).isSome = true ∧ w.drew.frozen? ⟨g, 0 + i * 2 + t, none⟩ = false from fun t ht => by
    refine ⟨?_, hOd.frozenAt _⟩
    have := hOd.cellAt (0 + i * 2 + t) (by rw [hlen] at ht; omega)
    rw [this, List.getElem?_eq_getElem (by rw [hA]; rw [hlen] at ht; omega)]
    rfl)
  have hA2 := hdr.setSls [] news (0 + i * 2)
  have HA2 := Lib.hid hA2
  clear hA2 h hO hOd hdr hA
  go_enter Tryz.func71, Tryz.ntmps71
  go_wp2_with fail
  have mixed : Tryz.prog.follows .mixedOrders = true := by kernel_rfl
  have hic : i ≤ cap := by omega
  have hjc : i + 1 ≤ cap := by omega
  have hbb : 0 ≤ (i : Int) + 1 ∧ (i : Int) + 1 ≤ (l.length : Int) := by omega
  have Hnews := Lib.hid hnews
  have Hlen := Lib.hid hlen
  clear hnews hlen
  go_region_law_o (refine step_append_room rfl (.tmp 22) (.tmp 25) 111 rfl 118 i0 2 Tryz.underlying111 hi0 hz1 g 0 i cap (by simp [Act.eval, Act.put]) A (l.length - (i + 1)) (cap - (i + 1)) news (by simp [Act.eval, Act.put, hA1]) s1.out hsrc.out s2.out (by omega) s3.out ?_)
  rw [show i + (l.length - (i + 1)) = l.length - 1 by omega]
  simp only [List.nil_append, Nat.zero_add] at HA2
  clear hsrc s1 s2 s3 hA1 mixed
  generalize w.drew.setCells g (i * 2) news = w2 at *
  have hcne : ¬ cap = l.length - 1 := by omega
  have hcl1 : l.length - 1 ≤ cap := by omega
  have hcl2 : l.length - 1 ≤ l.length := by omega
  have hbi : 0 ≤ ((l.length - 1 : Nat) : Int) ∧ ((l.length - 1 : Nat) : Int) ≤ (l.length : Int) := by omega
  have hij' : l.length - 1 < l.length := by omega
  go_wp2_with (((with_reducible refine wpList_clear_all (i := l.length - 1) (c := cap - (l.length - 1)) Tryz.underlying111 zeroAttr zA_size (by omega) zA_one [] HA2.out hij' rfl (.tmp 31) rfl ?_ ?_); (rfl); (intro w3 zs hA3); (have HA3 := Lib.hid hA3); (clear hA3)))
  go_ret
  refine ⟨rfl, ?_⟩
  have h4 := All.trunc [] HA3.out (show l.length - 1 ≤ l.length by omega)
  rw [setAll_take, setAll_at _ _ _ (by rw [attrC_len, Hlen.out]; omega), Hnews.out] at h4
  have e : (((attrC l).take (i * 2) ++ (attrC l).drop (2 * (i + 1)) ++ (attrC l).drop (i * 2 + ((attrC l).drop (2 * (i + 1))).length)).take ((l.length - 1) * 2)) = attrC (l.eraseIdx i) := by
    rw [show i * 2 = 2 * i by omega, attrC_take, attrC_drop, List.take_append_of_le_length (by rw [List.length_append, attrC_len, attrC_len, List.length_take, List.length_drop]; omega), ← attrC_app, show (l.length - 1) * 2 = 2 * (l.length - 1) by omega, attrC_take, List.eraseIdx_eq_take_drop_succ, List.take_of_length_le (by rw [List.length_append, List.length_take, List.length_drop]; omega)]
  rw [e] at h4
  exact h4
end Go.Proofs.YtfdofkokiaapoaaGreatDoor.W
end
