/- Texts joined: Rem InO MutA RepB Mrep TwR Mwlk TwD. -/
import Derived.Test.YtacdbnhnhdlmpaaGreatDoorFE10
import Derived.Test.YtacdbnhnhdlmpaaGreatDoorFE32
import Derived.Test.YtacdbnhnhdlmpaaGreatDoorFE15
import Derived.Test.YtacdbnhnhdlmpaaGreatDoorFE19
import Derived.Test.YtacdbnhnhdlmpaaGreatDoorFE13
import Derived.Test.YtacdbnhnhdlmpaaGreatDoorFE6
import Derived.Test.YtacdbnhnhdlmpaaGreatDoorFE18
import Derived.Test.YtacdbnhnhdlmpaaGreatDoorFE26
import Derived.Test.YtacdbnhnhdlmpaaGreatDoorFE33
import Derived.Test.YtacdbnhnhdlmpaaGreatDoorFE28
import Derived.LoopTactic
import Derived.RegionTactic
set_option maxRecDepth 100000
set_option maxHeartbeats 40000000
set_option linter.unusedVariables false
set_option linter.unusedSimpArgs false
section
namespace Go.Proofs.YtacdbnhnhdlmpaaGreatDoor.W
open Go.RowKit
theorem rc_one (w : World) (c : List Value) {B : Nat} (hB : B ≤ w.heap.size) (hc : c.length = 11) : RcAt (w.alloc (.cells c.toArray 152)) B (.slice (some ⟨w.heap.size, 0, none⟩) 1 1) [c] := by
  obtain ⟨h1, h2⟩ := own_at (n := 1) (size := 11) (Blk.new w c 152) (by omega) (by omega)
  refine ⟨by simpa using h1, ?_⟩
  rcases h2 with ⟨e, _⟩ | ⟨g', cap, cur, e, _, rest⟩
  · cases e
  · cases e; exact .inr ⟨w.heap.size, _, cur, rfl, hB, by simpa using rest⟩
set_option maxRecDepth 100000 in
set_option maxHeartbeats 4000000 in
theorem remove_top {B R g cap : Nat} {S : Tr} {fv : Value} {w : World} {K : Nat → List Nat} {d : Nat → Nat} (h : TAt B R S (.slice (some ⟨g, 0, none⟩) S.slots.length cap) fv w) (hL : Lk S K d) (c : Nat) (nc : Nd) (hc : S.at c = some nc) (hk : nc.kind ≠ 1) (hdet : ∀ q, c ∉ K q) :
    Calls Tryz.prog 54 #[.pointer (some ⟨R, 0, none⟩), .int .i64 (S.hd c)] w fun e w' => e = .returned (.tuple #[.slice none 0 0, .int .i64 0]) ∧ Below w.heap.size w w' := by
  have HC := Lib.hid (at_some h (S.hd c) (hd_ok hL hc).1 (hd_ix hL hc))
  have H0 := Lib.hid (fun wx (hb : Below w.heap.size w wx) => nd_cell (h.below hb) hc 0 (by omega))
  have H4 := Lib.hid (fun wx (hb : Below w.heap.size w wx) => nd_cell (h.below hb) hc 4 (by omega))
  simp only [ndC, List.getElem?_cons_succ, List.getElem?_cons_zero] at H0 H4
  rw [(hL.top c nc hc hdet).1] at H4
  have hk1 : (nc.kind == 1) = false := by simpa using hk
  clear h hL hc hdet
  go_enter Tryz.func54, Tryz.ntmps54
  go_wp2_with fail
  refine HC.out.mono ?_
  rintro e w1 ⟨rfl, hb1⟩
  have c0 := H0.out _ hb1
  have c4 := H4.out _ hb1
  go_wp2_with fail
  go_ret2
  exact ⟨rfl, hb1⟩
set_option maxRecDepth 100000 in
set_option maxHeartbeats 4000000 in
theorem remove_kid {B R g cap : Nat} {S : Tr} {fv : Value} {w : World} {K : Nat → List Nat} {d : Nat → Nat} (h : TAt B R S (.slice (some ⟨g, 0, none⟩) S.slots.length cap) fv w) (hL : Lk S K d) (q i c : Nat) (nc : Nd) (hc : S.at c = some nc) (hk : nc.kind ≠ 1) (hi : (K q)[i]? = some c) :
    Calls Tryz.prog 54 #[.pointer (some ⟨R, 0, none⟩), .int .i64 (S.hd c)] w fun e w' => ∃ S' v, Cutd S S' (K q) q i c ∧ e = .returned (.tuple #[v, .int .i64 0]) ∧ RcAt w' w.heap.size v [recC 2 (S.hd q) (S.hd c) nc.prev nc.next i [] [] false 0 0] ∧
      TAt B R S' (.slice (some ⟨g, 0, none⟩) S'.slots.length cap) fv w' ∧ Chg (fun k => k = g) w w' := by
  obtain ⟨nq, hnq⟩ := Option.isSome_iff_exists.1 (hL.kin q c (List.mem_of_getElem? hi)).1
  have hq0 : ¬ S.hd q = 0 := by have := (hd_ok hL hnq).2; omega
  have hq1 : (S.hd q == 0) = false := by simpa using hq0
  have HC := Lib.hid (at_some h (S.hd c) (hd_ok hL hc).1 (hd_ix hL hc))
  have H0 := Lib.hid (fun wx (hb : Below w.heap.size w wx) => nd_cell (h.below hb) hc 0 (by omega))
  have H4 := Lib.hid (fun wx (hb : Below w.heap.size w wx) => nd_cell (h.below hb) hc 4 (by omega))
  simp only [ndC, List.getElem?_cons_succ, List.getElem?_cons_zero] at H0 H4
  rw [(hL.kid q i c nc hi hc).1] at H4
  have HU := Lib.hid (fun wx (hb : Below w.heap.size w wx) => unlink_any (h.below hb) hL q i c nc hi hc)
  have hk1 : (nc.kind == 1) = false := by simpa using hk
  clear h hL hc hi hnq
  go_enter Tryz.func54, Tryz.ntmps54
  go_wp2_with fail
  refine HC.out.mono ?_
  rintro e w1 ⟨rfl, hb1⟩
  have c0 := H0.out _ hb1
  have c4 := H4.out _ hb1
  go_wp2_with fail
  refine (HU.out _ hb1).mono ?_
  rintro e w7 ⟨S1, hcut, rfl, hT7, hC7⟩
  have HT7 := Lib.hid hT7
  have HC7 := Lib.hid hC7
  have hs7 := Nat.le_trans hb1.size hC7.size
  clear hT7 hC7 HU c0 c4 H0 H4
  simp only [recC, strV]
  go_wp2_with fail
  go_ret2
  exact ⟨S1, _, hcut, rfl, rc_one w7 _ hs7 rfl, HT7.out.below ((Below.refl _ w7).alloc (Nat.le_refl _) _), ((Chg.of_below hb1).trans HC7.out (fun _ _ h => h)).alloc _⟩
set_option maxRecDepth 100000 in
set_option maxHeartbeats 4000000 in
theorem insert_no {B R g cap : Nat} {S : Tr} {fv : Value} {w : World} {K : Nat → List Nat} {d : Nat → Nat} (h : TAt B R S (.slice (some ⟨g, 0, none⟩) S.slots.length cap) fv w) (hL : Lk S K d) (p c : Nat) (o : Option Nat) (np nc : Nd) (hp : S.at p = some np) (hc : S.at c = some nc) (ho : ∀ b, o = some b → (S.at b).isSome = true)
    (hmay : mayB S K d p c np nc = false) :
    Calls Tryz.prog 57 #[.pointer (some ⟨R, 0, none⟩), .int .i64 (S.hd p), .int .i64 (S.hd c), .int .i64 (hO S o)] w fun e w' => e = .returned (.tuple #[.slice none 0 0, .int .i64 10]) ∧ Below w.heap.size w w' := by
  have HP := Lib.hid (fun wx (hb : Below w.heap.size w wx) => at_some (h.below hb) (S.hd p) (hd_ok hL hp).1 (hd_ix hL hp))
  have HC := Lib.hid (fun wx (hb : Below w.heap.size w wx) => at_some (h.below hb) (S.hd c) (hd_ok hL hc).1 (hd_ix hL hc))
  have HM := Lib.hid (fun wx (hb : Below w.heap.size w wx) => may_any (h.below hb) hL p c np nc hp hc)
  rw [hmay] at HM
  cases o with
  | none =>
    rw [show hO S none = 0 from rfl]
    clear h hL hp hc hmay ho
    go_enter Tryz.func57, Tryz.ntmps57
    go_wp2_with fail
    refine (HP.out _ (Below.refl _ _)).mono ?_
    rintro e w1 ⟨rfl, hb1⟩
    go_wp2_with fail
    refine (HC.out _ hb1).mono ?_
    rintro e w2 ⟨rfl, hb2⟩
    have hB2 := bthen hb1 hb2
    go_wp2_with fail
    refine (HM.out _ hB2).mono ?_
    rintro e w3 ⟨rfl, hb3⟩
    have hB3 := bthen hB2 hb3
    go_wp2_with fail
    go_ret2
    exact ⟨rfl, hB3⟩
  | some b =>
    obtain ⟨nb, hb⟩ := Option.isSome_iff_exists.1 (ho b rfl)
    have HB := Lib.hid (fun wx (hb' : Below w.heap.size w wx) => at_some (h.below hb') (S.hd b) (hd_ok hL hb).1 (hd_ix hL hb))
    have hb0 : ¬ S.hd b = 0 := by have := (hd_ok hL hb).2; omega
    have hb1' : (S.hd b == 0) = false := by simpa using hb0
    rw [show hO S (some b) = S.hd b from rfl]
    clear h hL hp hc hmay ho hb
    go_enter Tryz.func57, Tryz.ntmps57
    go_wp2_with fail
    refine (HP.out _ (Below.refl _ _)).mono ?_
    rintro e w1 ⟨rfl, hb1⟩
    go_wp2_with fail
    refine (HC.out _ hb1).mono ?_
    rintro e w2 ⟨rfl, hb2⟩
    have hB2 := bthen hb1 hb2
    go_wp2_with fail
    refine (HB.out _ hB2).mono ?_
    rintro e w2' ⟨rfl, hb2'⟩
    have hB2' := bthen hB2 hb2'
    go_wp2_with fail
    refine (HM.out _ hB2').mono ?_
    rintro e w3 ⟨rfl, hb3⟩
    have hB3 := bthen hB2' hb3
    go_wp2_with fail
    go_ret2
    exact ⟨rfl, hB3⟩
set_option maxRecDepth 100000 in
set_option maxHeartbeats 4000000 in
theorem insert_far {B R g cap : Nat} {S : Tr} {fv : Value} {w : World} {K : Nat → List Nat} {d : Nat → Nat} (h : TAt B R S (.slice (some ⟨g, 0, none⟩) S.slots.length cap) fv w) (hL : Lk S K d) (p c : Nat) (o : Option Nat) (np nc : Nd) (hp : S.at p = some np) (hc : S.at c = some nc) (ho : ∀ b, o = some b → b ∈ K p)
    (hmay : mayB S K d p c np nc = true) (hdep : 128 < d p + hgt K (128 - d c) c) :
    Calls Tryz.prog 57 #[.pointer (some ⟨R, 0, none⟩), .int .i64 (S.hd p), .int .i64 (S.hd c), .int .i64 (hO S o)] w fun e w' => e = .returned (.tuple #[.slice none 0 0, .int .i64 5]) ∧ Below w.heap.size w w' := by
  cases o with
  | none => exact insert_deep h hL p c np nc hp hc hmay hdep
  | some b =>
    have HP := Lib.hid (fun wx (hb : Below w.heap.size w wx) => at_some (h.below hb) (S.hd p) (hd_ok hL hp).1 (hd_ix hL hp))
    have HC := Lib.hid (fun wx (hb : Below w.heap.size w wx) => at_some (h.below hb) (S.hd c) (hd_ok hL hc).1 (hd_ix hL hc))
    have HM := Lib.hid (fun wx (hb : Below w.heap.size w wx) => may_any (h.below hb) hL p c np nc hp hc)
    rw [hmay] at HM
    have HD := Lib.hid (fun wx (hb : Below w.heap.size w wx) => depth_any (h.below hb) hL p np hp)
    have HH := Lib.hid (fun wx (hb : Below w.heap.size w wx) => height_any hL (128 - d c) c nc hc rfl wx (h.below hb))
    have hhc := hgt_le K (128 - d c) c
    have hlow := hL.low p
    have hbm := ho b rfl
    obtain ⟨nb, hb⟩ := Option.isSome_iff_exists.1 (hL.kin p b hbm).2
    obtain ⟨jb, hjb⟩ := List.mem_iff_getElem?.1 hbm
    have hbp : nb.parent = S.hd p := (hL.kid p jb b nb hjb hb).1
    have HB := Lib.hid (fun wx (hb' : Below w.heap.size w wx) => at_some (h.below hb') (S.hd b) (hd_ok hL hb).1 (hd_ix hL hb))
    have HB4 := Lib.hid (fun wx (hb' : Below w.heap.size w wx) => nd_cell (h.below hb') hb 4 (by omega))
    simp only [ndC, hbp] at HB4
    have hb0 : ¬ S.hd b = 0 := by have := (hd_ok hL hb).2; omega
    have hb1' : (S.hd b == 0) = false := by simpa using hb0
    rw [show hO S (some b) = S.hd b from rfl]
    clear h hL hp hc hmay ho hb hbp hjb hbm
    generalize hgt K (128 - d c) c = hc1 at *
    have d5 : decide ((128 : Int) < (d p : Int) + (hc1 : Int)) = true := by simp; omega
    go_enter Tryz.func57, Tryz.ntmps57
    go_wp2_with fail
    refine (HP.out _ (Below.refl _ _)).mono ?_
    rintro e w1 ⟨rfl, hb1⟩
    go_wp2_with fail
    refine (HC.out _ hb1).mono ?_
    rintro e w2 ⟨rfl, hb2⟩
    have hB2 := bthen hb1 hb2
    go_wp2_with fail
    refine (HB.out _ hB2).mono ?_
    rintro e w2' ⟨rfl, hb2'⟩
    have hB2' := bthen hB2 hb2'
    go_wp2_with fail
    refine (HM.out _ hB2').mono ?_
    rintro e w3 ⟨rfl, hb3⟩
    have hB3 := bthen hB2' hb3
    go_wp2_with fail
    refine (HB.out _ hB3).mono ?_
    rintro e w3' ⟨rfl, hb3'⟩
    have hB3' := bthen hB3 hb3'
    have cb4 := HB4.out _ hB3'
    simp only [List.getElem?_cons_succ, List.getElem?_cons_zero] at cb4
    go_wp2_with fail
    clear cb4
    refine (HD.out _ hB3').mono ?_
    rintro e w4 ⟨rfl, hb4⟩
    have hB4 := bthen hB3' hb4
    go_wp2_with fail
    refine (HH.out _ hB4).mono ?_
    rintro e w5 ⟨rfl, hb5⟩
    have hB5 := bthen hB4 hb5
    go_wp2_with fail
    go_ret2
    exact ⟨rfl, hB5⟩
set_option maxRecDepth 100000 in
set_option maxHeartbeats 4000000 in
theorem insert_other {B R g cap : Nat} {S : Tr} {fv : Value} {w : World} {K : Nat → List Nat} {d : Nat → Nat} (h : TAt B R S (.slice (some ⟨g, 0, none⟩) S.slots.length cap) fv w) (hL : Lk S K d) (p c b : Nat) (np nc nb : Nd) (hp : S.at p = some np) (hc : S.at c = some nc) (hb : S.at b = some nb)
    (hmay : mayB S K d p c np nc = true) (hnb : nb.parent ≠ S.hd p) :
    Calls Tryz.prog 57 #[.pointer (some ⟨R, 0, none⟩), .int .i64 (S.hd p), .int .i64 (S.hd c), .int .i64 (S.hd b)] w fun e w' => e = .returned (.tuple #[.slice none 0 0, .int .i64 10]) ∧ Below w.heap.size w w' := by
  have HP := Lib.hid (fun wx (hb : Below w.heap.size w wx) => at_some (h.below hb) (S.hd p) (hd_ok hL hp).1 (hd_ix hL hp))
  have HC := Lib.hid (fun wx (hb : Below w.heap.size w wx) => at_some (h.below hb) (S.hd c) (hd_ok hL hc).1 (hd_ix hL hc))
  have HM := Lib.hid (fun wx (hb : Below w.heap.size w wx) => may_any (h.below hb) hL p c np nc hp hc)
  rw [hmay] at HM
  have HB := Lib.hid (fun wx (hb' : Below w.heap.size w wx) => at_some (h.below hb') (S.hd b) (hd_ok hL hb).1 (hd_ix hL hb))
  have HS := Lib.hid (fun wx (hb' : Below w.heap.size w wx) => (show wx.cell? ⟨g, b * 10 + 5, none⟩ = some (.int .i64 nb.parent) from slot_cell (h.below hb') (at_slot hb) 5 (by omega)))
  have hb0 : ¬ S.hd b = 0 := by have := (hd_ok hL hb).2; omega
  have hb1' : (S.hd b == 0) = false := by simpa using hb0
  have hne : (nb.parent == S.hd p) = false := by simpa using hnb
  have hx1 : (S.hd b != 0) = true := by simpa using hb0
  have hx2 : (nb.parent != S.hd p) = true := by simpa using hnb
  clear h hL hp hc hmay hb hnb
  go_enter Tryz.func57, Tryz.ntmps57
  go_wp2_with fail
  refine (HP.out _ (Below.refl _ _)).mono ?_
  rintro e w1 ⟨rfl, hb1⟩
  go_wp2_with fail
  refine (HC.out _ hb1).mono ?_
  rintro e w2 ⟨rfl, hb2⟩
  have hB2 := bthen hb1 hb2
  go_wp2_with fail
  refine (HB.out _ hB2).mono ?_
  rintro e w2' ⟨rfl, hb2'⟩
  have hB2' := bthen hB2 hb2'
  go_wp2_with fail
  refine (HM.out _ hB2').mono ?_
  rintro e w3 ⟨rfl, hb3⟩
  have hB3 := bthen hB2' hb3
  go_wp2_with fail
  refine (HB.out _ hB3).mono ?_
  rintro e w4 ⟨rfl, hb4⟩
  have HB4 := Lib.hid (bthen hB3 hb4)
  have c5 := HS.out w4 HB4.out
  unfold na
  clear hb1 hb2 hB2 hb2' hB2' hb3 hB3 hb4 HP HC HM HB HS
  go_wp2_with fail
  go_ret2
  exact ⟨rfl, HB4.out⟩






end Go.Proofs.YtacdbnhnhdlmpaaGreatDoor.W
end
