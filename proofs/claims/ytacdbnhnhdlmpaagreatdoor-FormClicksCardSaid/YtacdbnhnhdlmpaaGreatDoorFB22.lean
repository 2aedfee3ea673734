/- Texts joined: Rem InO WkV MutA RepB Mrep TwR Mwlk. -/
import Derived.Test.YtacdbnhnhdlmpaaGreatDoorFB10
import Derived.Test.YtacdbnhnhdlmpaaGreatDoorFB20
import Derived.Test.YtacdbnhnhdlmpaaGreatDoorFB19
import Derived.Test.YtacdbnhnhdlmpaaGreatDoorFB15
import Derived.Test.YtacdbnhnhdlmpaaGreatDoorFB16
import Derived.Test.YtacdbnhnhdlmpaaGreatDoorFB12
import Derived.Test.YtacdbnhnhdlmpaaGreatDoorFB6
import Derived.Test.YtacdbnhnhdlmpaaGreatDoorFB18
import Derived.LoopTactic
import Derived.RegionTactic
set_option maxRecDepth 100000
set_option maxHeartbeats 40000000
set_option linter.unusedVariables false
set_option linter.unusedSimpArgs false
section
namespace Go.Proofs.YtacdbnhnhdlmpaaGreatDoor.W
open Go.RowKit
theorem rc_one (w : World) (c : List Value) {B : Nat} (hB : B ≤ w.heap.size) (hc : c.length = 11) : RcAt (w.alloc (.cells c.toArray 152)) B (.slice (some ⟨w.heap.size, 0, none⟩) 1 1) [c] := by
  obtain ⟨h1, h2⟩ := own_at (n := 1) (size := 11) (Blk.new w c 152) (by omega) (by omega)
  refine ⟨by simpa using h1, ?_⟩
  rcases h2 with ⟨e, _⟩ | ⟨g', cap, cur, e, _, rest⟩
  · cases e
  · cases e; exact .inr ⟨w.heap.size, _, cur, rfl, hB, by simpa using rest⟩
set_option maxRecDepth 100000 in
set_option maxHeartbeats 4000000 in
theorem remove_top {B R g cap : Nat} {S : Tr} {fv : Value} {w : World} {K : Nat → List Nat} {d : Nat → Nat} (h : TAt B R S (.slice (some ⟨g, 0, none⟩) S.slots.length cap) fv w) (hL : Lk S K d) (c : Nat) (nc : Nd) (hc : S.at c = some nc) (hk : nc.kind ≠ 1) (hdet : ∀ q, c ∉ K q) :
    Calls Tryz.prog 54 #[.pointer (some ⟨R, 0, none⟩), .int .i64 (S.hd c)] w fun e w' => e = .returned (.tuple #[.slice none 0 0, .int .i64 0]) ∧ Below w.heap.size w w' := by
  have HC := Lib.hid (at_some h (S.hd c) (hd_ok hL hc).1 (hd_ix hL hc))
  have H0 := Lib.hid (fun wx (hb : Below w.heap.size w wx) => nd_cell (h.below hb) hc 0 (by omega))
  have H4 := Lib.hid (fun wx (hb : Below w.heap.size w wx) => nd_cell (h.below hb) hc 4 (by omega))
  simp only [ndC, List.getElem?_cons_succ, List.getElem?_cons_zero] at H0 H4
  rw [(hL.top c nc hc hdet).1] at H4
  have hk1 : (nc.kind == 1) = false := by simpa using hk
  clear h hL hc hdet
  go_enter Tryz.func54, Tryz.ntmps54
  go_wp2_with fail
  refine HC.out.mono ?_
  rintro e w1 ⟨rfl, hb1⟩
  have c0 := H0.out _ hb1
  have c4 := H4.out _ hb1
  go_wp2_with fail
  go_ret2
  exact ⟨rfl, hb1⟩
set_option maxRecDepth 100000 in
set_option maxHeartbeats 4000000 in
theorem remove_kid {B R g cap : Nat} {S : Tr} {fv : Value} {w : World} {K : Nat → List Nat} {d : Nat → Nat} (h : TAt B R S (.slice (some ⟨g, 0, none⟩) S.slots.length cap) fv w) (hL : Lk S K d) (q i c : Nat) (nc : Nd) (hc : S.at c = some nc) (hk : nc.kind ≠ 1) (hi : (K q)[i]? = some c) :
    Calls Tryz.prog 54 #[.pointer (some ⟨R, 0, none⟩), .int .i64 (S.hd c)] w fun e w' => ∃ S' v, Cutd S S' (K q) q i c ∧ e = .returned (.tuple #[v, .int .i64 0]) ∧ RcAt w' w.heap.size v [recC 2 (S.hd q) (S.hd c) nc.prev nc.next i [] [] false 0 0] ∧
      TAt B R S' (.slice (some ⟨g, 0, none⟩) S'.slots.length cap) fv w' ∧ Chg (fun k => k = g) w w' := by
  obtain ⟨nq, hnq⟩ := Option.isSome_iff_exists.1 (hL.kin q c (List.mem_of_getElem? hi)).1
  have hq0 : ¬ S.hd q = 0 := by have := (hd_ok hL hnq).2; omega
  have hq1 : (S.hd q == 0) = false := by simpa using hq0
  have HC := Lib.hid (at_some h (S.hd c) (hd_ok hL hc).1 (hd_ix hL hc))
  have H0 := Lib.hid (fun wx (hb : Below w.heap.size w wx) => nd_cell (h.below hb) hc 0 (by omega))
  have H4 := Lib.hid (fun wx (hb : Below w.heap.size w wx) => nd_cell (h.below hb) hc 4 (by omega))
  simp only [ndC, List.getElem?_cons_succ, List.getElem?_cons_zero] at H0 H4
  rw [(hL.kid q i c nc hi hc).1] at H4
  have HU := Lib.hid (fun wx (hb : Below w.heap.size w wx) => unlink_any (h.below hb) hL q i c nc hi hc)
  have hk1 : (nc.kind == 1) = false := by simpa using hk
  clear h hL hc hi hnq
  go_enter Tryz.func54, Tryz.ntmps54
  go_wp2_with fail
  refine HC.out.mono ?_
  rintro e w1 ⟨rfl, hb1⟩
  have c0 := H0.out _ hb1
  have c4 := H4.out _ hb1
  go_wp2_with fail
  refine (HU.out _ hb1).mono ?_
  rintro e w7 ⟨S1, hcut, rfl, hT7, hC7⟩
  have HT7 := Lib.hid hT7
  have HC7 := Lib.hid hC7
  have hs7 := Nat.le_trans hb1.size hC7.size
  clear hT7 hC7 HU c0 c4 H0 H4
  simp only [recC, strV]
  go_wp2_with fail
  go_ret2
  exact ⟨S1, _, hcut, rfl, rc_one w7 _ hs7 rfl, HT7.out.below ((Below.refl _ w7).alloc (Nat.le_refl _) _), ((Chg.of_below hb1).trans HC7.out (fun _ _ h => h)).alloc _⟩
set_option maxRecDepth 100000 in
set_option maxHeartbeats 4000000 in
theorem insert_no {B R g cap : Nat} {S : Tr} {fv : Value} {w : World} {K : Nat → List Nat} {d : Nat → Nat} (h : TAt B R S (.slice (some ⟨g, 0, none⟩) S.slots.length cap) fv w) (hL : Lk S K d) (p c : Nat) (o : Option Nat) (np nc : Nd) (hp : S.at p = some np) (hc : S.at c = some nc) (ho : ∀ b, o = some b → (S.at b).isSome = true)
    (hmay : mayB S K d p c np nc = false) :
    Calls Tryz.prog 57 #[.pointer (some ⟨R, 0, none⟩), .int .i64 (S.hd p), .int .i64 (S.hd c), .int .i64 (hO S o)] w fun e w' => e = .returned (.tuple #[.slice none 0 0, .int .i64 10]) ∧ Below w.heap.size w w' := by
  have HP := Lib.hid (fun wx (hb : Below w.heap.size w wx) => at_some (h.below hb) (S.hd p) (hd_ok hL hp).1 (hd_ix hL hp))
  have HC := Lib.hid (fun wx (hb : Below w.heap.size w wx) => at_some (h.below hb) (S.hd c) (hd_ok hL hc).1 (hd_ix hL hc))
  have HM := Lib.hid (fun wx (hb : Below w.heap.size w wx) => may_any (h.below hb) hL p c np nc hp hc)
  rw [hmay] at HM
  cases o with
  | none =>
    rw [show hO S none = 0 from rfl]
    clear h hL hp hc hmay ho
    go_enter Tryz.func57, Tryz.ntmps57
    go_wp2_with fail
    refine (HP.out _ (Below.refl _ _)).mono ?_
    rintro e w1 ⟨rfl, hb1⟩
    go_wp2_with fail
    refine (HC.out _ hb1).mono ?_
    rintro e w2 ⟨rfl, hb2⟩
    have hB2 := bthen hb1 hb2
    go_wp2_with fail
    refine (HM.out _ hB2).mono ?_
    rintro e w3 ⟨rfl, hb3⟩
    have hB3 := bthen hB2 hb3
    go_wp2_with fail
    go_ret2
    exact ⟨rfl, hB3⟩
  | some b =>
    obtain ⟨nb, hb⟩ := Option.isSome_iff_exists.1 (ho b rfl)
    have HB := Lib.hid (fun wx (hb' : Below w.heap.size w wx) => at_some (h.below hb') (S.hd b) (hd_ok hL hb).1 (hd_ix hL hb))
    have hb0 : ¬ S.hd b = 0 := by have := (hd_ok hL hb).2; omega
    have hb1' : (S.hd b == 0) = false := by simpa using hb0
    rw [show hO S (some b) = S.hd b from rfl]
    clear h hL hp hc hmay ho hb
    go_enter Tryz.func57, Tryz.ntmps57
    go_wp2_with fail
    refine (HP.out _ (Below.refl _ _)).mono ?_
    rintro e w1 ⟨rfl, hb1⟩
    go_wp2_with fail
    refine (HC.out _ hb1).mono ?_
    rintro e w2 ⟨rfl, hb2⟩
    have hB2 := bthen hb1 hb2
    go_wp2_with fail
    refine (HB.out _ hB2).mono ?_
    rintro e w2' ⟨rfl, hb2'⟩
    have hB2' := bthen hB2 hb2'
    go_wp2_with fail
    refine (HM.out _ hB2').mono ?_
    rintro e w3 ⟨rfl, hb3⟩
    have hB3 := bthen hB2' hb3
    go_wp2_with fail
    go_ret2
    exact ⟨rfl, hB3⟩
set_option maxRecDepth 100000 in
set_option maxHeartbeats 4000000 in
theorem insert_far {B R g cap : Nat} {S : Tr} {fv : Value} {w : World} {K : Nat → List Nat} {d : Nat → Nat} (h : TAt B R S (.slice (some ⟨g, 0, none⟩) S.slots.length cap) fv w) (hL : Lk S K d) (p c : Nat) (o : Option Nat) (np nc : Nd) (hp : S.at p = some np) (hc : S.at c = some nc) (ho : ∀ b, o = some b → b ∈ K p)
    (hmay : mayB S K d p c np nc = true) (hdep : 128 < d p + hgt K (128 - d c) c) :
    Calls Tryz.prog 57 #[.pointer (some ⟨R, 0, none⟩), .int .i64 (S.hd p), .int .i64 (S.hd c), .int .i64 (hO S o)] w fun e w' => e = .returned (.tuple #[.slice none 0 0, .int .i64 5]) ∧ Below w.heap.size w w' := by
  cases o with
  | none => exact insert_deep h hL p c np nc hp hc hmay hdep
  | some b =>
    have HP := Lib.hid (fun wx (hb : Below w.heap.size w wx) => at_some (h.below hb) (S.hd p) (hd_ok hL hp).1 (hd_ix hL hp))
    have HC := Lib.hid (fun wx (hb : Below w.heap.size w wx) => at_some (h.below hb) (S.hd c) (hd_ok hL hc).1 (hd_ix hL hc))
    have HM := Lib.hid (fun wx (hb : Below w.heap.size w wx) => may_any (h.below hb) hL p c np nc hp hc)
    rw [hmay] at HM
    have HD := Lib.hid (fun wx (hb : Below w.heap.size w wx) => depth_any (h.below hb) hL p np hp)
    have HH := Lib.hid (fun wx (hb : Below w.heap.size w wx) => height_any hL (128 - d c) c nc hc rfl wx (h.below hb))
    have hhc := hgt_le K (128 - d c) c
    have hlow := hL.low p
    have hbm := ho b rfl
    obtain ⟨nb, hb⟩ := Option.isSome_iff_exists.1 (hL.kin p b hbm).2
    obtain ⟨jb, hjb⟩ := List.mem_iff_getElem?.1 hbm
    have hbp : nb.parent = S.hd p := (hL.kid p jb b nb hjb hb).1
    have HB := Lib.hid (fun wx (hb' : Below w.heap.size w wx) => at_some (h.below hb') (S.hd b) (hd_ok hL hb).1 (hd_ix hL hb))
    have HB4 := Lib.hid (fun wx (hb' : Below w.heap.size w wx) => nd_cell (h.below hb') hb 4 (by omega))
    simp only [ndC, hbp] at HB4
    have hb0 : ¬ S.hd b = 0 := by have := (hd_ok hL hb).2; omega
    have hb1' : (S.hd b == 0) = false := by simpa using hb0
    rw [show hO S (some b) = S.hd b from rfl]
    clear h hL hp hc hmay ho hb hbp hjb hbm
    generalize hgt K (128 - d c) c = hc1 at *
    have d5 : decide ((128 : Int) < (d p : Int) + (hc1 : Int)) = true := by simp; omega
    go_enter Tryz.func57, Tryz.ntmps57
    go_wp2_with fail
    refine (HP.out _ (Below.refl _ _)).mono ?_
    rintro e w1 ⟨rfl, hb1⟩
    go_wp2_with fail
    refine (HC.out _ hb1).mono ?_
    rintro e w2 ⟨rfl, hb2⟩
    have hB2 := bthen hb1 hb2
    go_wp2_with fail
    refine (HB.out _ hB2).mono ?_
    rintro e w2' ⟨rfl, hb2'⟩
    have hB2' := bthen hB2 hb2'
    go_wp2_with fail
    refine (HM.out _ hB2').mono ?_
    rintro e w3 ⟨rfl, hb3⟩
    have hB3 := bthen hB2' hb3
    go_wp2_with fail
    refine (HB.out _ hB3).mono ?_
    rintro e w3' ⟨rfl, hb3'⟩
    have hB3' := bthen hB3 hb3'
    have cb4 := HB4.out _ hB3'
    simp only [List.getElem?_cons_succ, List.getElem?_cons_zero] at cb4
    go_wp2_with fail
    clear cb4
    refine (HD.out _ hB3').mono ?_
    rintro e w4 ⟨rfl, hb4⟩
    have hB4 := bthen hB3' hb4
    go_wp2_with fail
    refine (HH.out _ hB4).mono ?_
    rintro e w5 ⟨rfl, hb5⟩
    have hB5 := bthen hB4 hb5
    go_wp2_with fail
    go_ret2
    exact ⟨rfl, hB5⟩
set_option maxRecDepth 100000 in
set_option maxHeartbeats 4000000 in
theorem insert_other {B R g cap : Nat} {S : Tr} {fv : Value} {w : World} {K : Nat → List Nat} {d : Nat → Nat} (h : TAt B R S (.slice (some ⟨g, 0, none⟩) S.slots.length cap) fv w) (hL : Lk S K d) (p c b : Nat) (np nc nb : Nd) (hp : S.at p = some np) (hc : S.at c = some nc) (hb : S.at b = some nb)
    (hmay : mayB S K d p c np nc = true) (hnb : nb.parent ≠ S.hd p) :
    Calls Tryz.prog 57 #[.pointer (some ⟨R, 0, none⟩), .int .i64 (S.hd p), .int .i64 (S.hd c), .int .i64 (S.hd b)] w fun e w' => e = .returned (.tuple #[.slice none 0 0, .int .i64 10]) ∧ Below w.heap.size w w' := by
  have HP := Lib.hid (fun wx (hb : Below w.heap.size w wx) => at_some (h.below hb) (S.hd p) (hd_ok hL hp).1 (hd_ix hL hp))
  have HC := Lib.hid (fun wx (hb : Below w.heap.size w wx) => at_some (h.below hb) (S.hd c) (hd_ok hL hc).1 (hd_ix hL hc))
  have HM := Lib.hid (fun wx (hb : Below w.heap.size w wx) => may_any (h.below hb) hL p c np nc hp hc)
  rw [hmay] at HM
  have HB := Lib.hid (fun wx (hb' : Below w.heap.size w wx) => at_some (h.below hb') (S.hd b) (hd_ok hL hb).1 (hd_ix hL hb))
  have HS := Lib.hid (fun wx (hb' : Below w.heap.size w wx) => (show wx.cell? ⟨g, b * 10 + 5, none⟩ = some (.int .i64 nb.parent) from slot_cell (h.below hb') (at_slot hb) 5 (by omega)))
  have hb0 : ¬ S.hd b = 0 := by have := (hd_ok hL hb).2; omega
  have hb1' : (S.hd b == 0) = false := by simpa using hb0
  have hne : (nb.parent == S.hd p) = false := by simpa using hnb
  have hx1 : (S.hd b != 0) = true := by simpa using hb0
  have hx2 : (nb.parent != S.hd p) = true := by simpa using hnb
  clear h hL hp hc hmay hb hnb
  go_enter Tryz.func57, Tryz.ntmps57
  go_wp2_with fail
  refine (HP.out _ (Below.refl _ _)).mono ?_
  rintro e w1 ⟨rfl, hb1⟩
  go_wp2_with fail
  refine (HC.out _ hb1).mono ?_
  rintro e w2 ⟨rfl, hb2⟩
  have hB2 := bthen hb1 hb2
  go_wp2_with fail
  refine (HB.out _ hB2).mono ?_
  rintro e w2' ⟨rfl, hb2'⟩
  have hB2' := bthen hB2 hb2'
  go_wp2_with fail
  refine (HM.out _ hB2').mono ?_
  rintro e w3 ⟨rfl, hb3⟩
  have hB3 := bthen hB2' hb3
  go_wp2_with fail
  refine (HB.out _ hB3).mono ?_
  rintro e w4 ⟨rfl, hb4⟩
  have HB4 := Lib.hid (bthen hB3 hb4)
  have c5 := HS.out w4 HB4.out
  unfold na
  clear hb1 hb2 hB2 hb2' hB2' hb3 hB3 hb4 HP HC HM HB HS
  go_wp2_with fail
  go_ret2
  exact ⟨rfl, HB4.out⟩
end Go.Proofs.YtacdbnhnhdlmpaaGreatDoor.W
end
section
namespace Go.Proofs.YtacdbnhnhdlmpaaGreatDoor.W
open Go.RowKit
attribute [local go_sem] Oper.semAt_some
structure KpV (P : Nat → Obj → Prop) (W W' : World) : Prop where
  size : W.heap.size ≤ W'.heap.size
  kept : ∀ (k : Nat) (cs : Array Value) (t : TypeId) (fr : Nat × Nat), W.heap[k]? = some (Obj.cells cs t fr) → ¬ P k (.cells cs t fr) → W'.heap[k]? = some (Obj.cells cs t fr)
theorem KpV.trans {P : Nat → Obj → Prop} {A C D : World} (h : KpV P A C) (k : KpV P C D) : KpV P A D :=
  ⟨Nat.le_trans h.size k.size, fun i cs t fr hi h1 => k.kept i cs t fr (h.kept i cs t fr hi h1) h1⟩
theorem KpV.put {P : Nat → Obj → Prop} {W : World} (l : Nat) (o o' : Obj) (h : W.heap[l]? = some o) (ho : o.isCells = false) : KpV P W (W.putObj l o') := by
  refine ⟨by simp, fun k cs t fr hk _ => (World.putObj_heap_other (fun e => ?_)).trans hk⟩
  subst e; rw [hk] at h; cases h; cases ho
theorem KpV.below {P : Nat → Obj → Prop} {W W' : World} (k : Below W.heap.size W W') : KpV P W W' :=
  ⟨k.size, fun i cs t fr hi _ => (k.block i (hlt hi)).trans hi⟩
def VOk (P : Nat → Obj → Prop) (N0 : Nat) : Prop := ∀ k cs fr, N0 ≤ k → ¬ P k (.cells cs 3 fr)
theorem TAt.wkv {P : Nat → Obj → Prop} {B R : Nat} {S : Tr} {sv fv : Value} {w W : World} (h : TAt B R S sv fv w) (hk : KpV P w W) (hF : ∀ k cs t fr, trF R S sv fv k → w.heap[k]? = some (Obj.cells cs t fr) → ¬ P k (.cells cs t fr)) : TAt B R S sv fv W := by
  have keep : ∀ {e sz n : Nat} {v : Value} {xs : List Value}, w.ownsRow B e sz v n xs → (∀ g, v.ownBlock = some g → trF R S sv fv g) → W.ownsRow B e sz v n xs := fun h hv => own_kB h (fun g hg => by
    obtain ⟨cur, hc⟩ := own_ty h hg
    exact (hk.kept g _ _ _ hc (hF g _ _ _ (hv g hg) hc)).trans hc.symm)
  refine ⟨h.blk.kept ((hk.kept R _ _ _ h.blk (hF R _ _ _ (.inl rfl) h.blk)).trans (show _ = _ from h.blk).symm), keep h.slots (fun g hg => .inr (.inl hg)), keep h.free (fun g hg => .inr (.inr (.inl hg))), fun i n hi => ?_, h.base, h.few⟩
  obtain ⟨a, cp, e, hx⟩ := h.attrs i n hi
  by_cases hne : n.attrs = []
  · exact ⟨a, cp, e, .inl hne⟩
  rcases hx with hx | ⟨g', cur', e1, e2, e3, e4⟩
  · exact absurd hx hne
  · exact ⟨a, cp, e, .inr ⟨g', cur', e1, e2, hk.kept g' _ _ _ e3 (hF g' _ _ _ (.inr (.inr (.inr ⟨i, n, at_of hi, hne, by rw [e, e1]; rfl⟩))) e3), e4⟩⟩
def WkLV (S : Tr) (P : Nat → Obj → Prop) (K : Nat → List Nat) (f i : Nat) (w0 W : World) (pre : List Nat) (J : List Nat → World → Prop) (v : Value) (jv : Value) (wr : World) : Prop :=
  ∃ (j B2 : Nat), j ≤ (K i).length ∧ jv = .int .i64 (j : Int) ∧ J (pre ++ [i] ++ ((K i).take j).flatMap (wlk K f)) wr ∧ KpV P W wr ∧ KpV P w0 wr ∧ wr.ownsRow B2 3 1 v (K i).length (hC ((K i).map S.hd)) ∧ ∀ k, v.ownBlock = some k → w0.heap.size ≤ k
def WkCV (R l : Nat) (P : Nat → Obj → Prop) (N : Nat) (S : Tr) (K : Nat → List Nat) (w0 : World) (J Jx : List Nat → World → Prop) (f i : Nat) : Prop :=
  ∀ m pre W, KpV P w0 W → J pre W → pre.length + (wlk K f i).length ≤ N →
    CallsIn Fence.wide m Tryz.prog 137 #[.pointer (some ⟨R, 0, none⟩), .int .i64 (S.hd i), .func (.yield l) #[] #[]] W fun e W' =>
      (e = .returned (.bool true) ∧ J (pre ++ wlk K f i) W' ∧ KpV P W W') ∨ (e = .returned (.bool false) ∧ ∃ q, q <+: pre ++ wlk K f i ∧ Jx q W')
set_option maxRecDepth 100000 in
set_option maxHeartbeats 4000000 in
theorem walkV_step {P : Nat → Obj → Prop} {B R g cap N l : Nat} {S : Tr} {fv : Value} {w0 : World} {K : Nat → List Nat} {d : Nat → Nat} (hV : VOk P w0.heap.size) (h0 : ∀ W, KpV P w0 W → TAt B R S (.slice (some ⟨g, 0, none⟩) S.slots.length cap) fv W) (hL : Lk S K d) {J Jx : List Nat → World → Prop}
    (hJ : ∀ s W W', J s W → Below W.heap.size W W' → J s W')
    (hY : ∀ m pre x W, (S.at x).isSome = true → J pre W → pre.length < N → YieldAt Fence.wide m Tryz.prog l #[.int .i64 (S.hd x)] W fun e W' => (e = .returned (.bool true) ∧ J (pre ++ [x]) W' ∧ KpV P W W') ∨ (e = .returned (.bool false) ∧ Jx (pre ++ [x]) W'))
    (f i : Nat) (n : Nd) (hi : S.at i = some n) (hw : wlk K f i = i :: (K i).flatMap (wlk K (f - 1))) (ih : ∀ k ∈ K i, WkCV R l P N S K w0 J Jx (f - 1) k) : WkCV R l P N S K w0 J Jx f i := by
  intro m pre W hI hj hN
  rw [hw] at hN ⊢
  obtain ⟨fn, tmps, assign, body, hy, hR⟩ := hY (m - 1) pre i W (by rw [hi]; rfl) hj (by simp at hN; omega)
  have HIH := Lib.hid ih
  have HI := Lib.hid hI
  have HJ := Lib.hid hJ
  have hkl := kids_len hL i
  clear ih hY hI hj hJ hw
  refine callsIn_of_wp Tryz.func137 rfl trivial ?_ rfl
  simp only [Tryz.ntmps137, List.size_toArray, List.length_cons, List.length_nil, Nat.reduceAdd, Nat.reduceSub, Array.replicate_succ, Array.replicate_zero, List.push_toArray, List.append_toArray, List.nil_append, List.cons_append]
  gi_wp2
  refine ⟨fun h => (by cases h), ?_⟩
  refine hR.mono ?_
  rintro e W1 (⟨rfl, hj1, hk1⟩ | ⟨rfl, hx1⟩)
  · have HI1 := Lib.hid (HI.out.trans hk1)
    have HK := Lib.hid (kids_any (h0 _ HI1.out) hL i n hi)
    have HJ1 := Lib.hid hj1
    have HK1 := Lib.hid hk1
    clear hy hR hj1 hk1
    gi_wp2
    refine ⟨trivial, fun h => (by cases h), (callsIn_wide.2 HK.out).mono ?_⟩
    rintro e W2 ⟨v, rfl, ho, hb2⟩
    obtain ⟨va, vc, rfl⟩ := own_shapeB ho
    have k2 := KpV.below (P := P) hb2
    have HO := Lib.hid ho
    have hI2 := HI1.out.trans k2
    have HS := Lib.hid (show WkLV S P K (f - 1) i w0 W pre J (.slice va (K i).length vc) (.int .i64 0) W2 from ⟨0, W1.heap.size, by omega, rfl, by simpa using HJ.out _ _ _ HJ1.out hb2, HK1.out.trans k2, hI2, ho, fun k hk => by
      have h1 := (ho.lt k hk).1
      have := HI1.out.size
      omega⟩)
    clear ho hb2 k2 hI2 HK
    gi_wp2
    gi_loopw [17] (fun jv wr => WkLV S P K (f - 1) i w0 W pre J (.slice va (K i).length vc) jv wr) (fun jv _ => (K i).length - (intOf jv).toNat)
    case atStart => exact HS.out
    case round =>
      obtain ⟨j, B2, hjl, rfl, hjj, hkk, hii, hoo, hne⟩ := hrel
      have HOo := Lib.hid hoo
      have HJj := Lib.hid hjj
      have HKk := Lib.hid hkk
      have HIi := Lib.hid hii
      have HNe := Lib.hid hne
      clear hjj hkk hii hne
      by_cases hlt : j < (K i).length
      · obtain ⟨k, hk⟩ : ∃ k, (K i)[j]? = some k := ⟨_, List.getElem?_eq_getElem hlt⟩
        obtain ⟨gv, cp2, hv, hc⟩ := own_int hoo (x := S.hd k) (by rw [List.getElem?_map, hk]; rfl)
        cases hv
        have hcg := World.block_lt_of_cell? wr ⟨gv, j, none⟩ hc
        have HC := Lib.hid (HIH.out k (List.mem_of_getElem? hk) (m - 1) (pre ++ [i] ++ ((K i).take j).flatMap (wlk K (f - 1))) wr HIi.out HJj.out (by
          have e := flatMap_take_succ hk (wlk K (f - 1))
          have h2 : (((K i).take (j + 1)).flatMap (wlk K (f - 1))).length ≤ ((K i).flatMap (wlk K (f - 1))).length := by
            conv => rhs; rw [← List.take_append_drop (j + 1) (K i), List.flatMap_append]
            simp
          rw [e] at h2
          simp only [List.length_append, List.length_cons, List.length_nil] at h2 hN ⊢
          omega))
        have HE := Lib.hid (flatMap_take_succ hk (wlk K (f - 1)))
        clear hoo hk
        gi_wp2
        refine ⟨trivial, fun h => (by cases h), HC.out.mono ?_⟩
        rintro e W3 (⟨rfl, hj3, hk3⟩ | ⟨rfl, q, hx3⟩)
        · have HS3 := Lib.hid (show WkLV S P K (f - 1) i w0 W pre J (.slice (some ⟨gv, 0, none⟩) (K i).length vc) (.int .i64 ((j + 1 : Nat) : Int)) W3 from ⟨j + 1, B2, by omega, rfl, by rw [HE.out]; rw [List.append_assoc] at hj3; exact hj3, HKk.out.trans hk3, HIi.out.trans hk3, own_kB HOo.out (fun g hg => by
            obtain ⟨cur, hcur⟩ := own_ty HOo.out hg
            exact (hk3.kept g _ _ _ hcur (hV g _ _ (HNe.out g hg))).trans hcur.symm), HNe.out⟩)
          clear hj3 hk3
          gi_wp2
          go_roundw
          case rel => exact HS3.out
          case measure => simp [intOf]; omega
        · obtain ⟨hq, hx3⟩ := hx3
          have HX := Lib.hid hx3
          have HQ := Lib.hid (show q <+: pre ++ i :: (K i).flatMap (wlk K (f - 1)) from hq.trans (by
            rw [← List.take_append_drop (j + 1) (K i), List.flatMap_append, HE.out]
            exact ⟨((K i).drop (j + 1)).flatMap (wlk K (f - 1)), by simp⟩))
          clear hx3 hq
          gi_wp2
          go_ret
          exact .inr ⟨rfl, _, HQ.out, HX.out⟩
      · obtain rfl : j = (K i).length := by omega
        rw [List.take_length] at HJj
        clear hoo
        gi_wp2
        go_ret
        refine .inl ⟨rfl, ?_, HKk.out⟩
        have := HJj.out
        rw [List.append_assoc] at this
        exact this
  · have HX := Lib.hid hx1
    clear hy hR hx1
    gi_wp2
    go_ret
    exact .inr ⟨rfl, _, ⟨(K i).flatMap (wlk K (f - 1)), by simp⟩, HX.out⟩
theorem walkV_in {P : Nat → Obj → Prop} {B R g cap N l : Nat} {S : Tr} {fv : Value} {w0 : World} {K : Nat → List Nat} {d : Nat → Nat} (hV : VOk P w0.heap.size) (h0 : ∀ W, KpV P w0 W → TAt B R S (.slice (some ⟨g, 0, none⟩) S.slots.length cap) fv W) (hL : Lk S K d) {J Jx : List Nat → World → Prop}
    (hJ : ∀ s W W', J s W → Below W.heap.size W W' → J s W')
    (hY : ∀ m pre x W, (S.at x).isSome = true → J pre W → pre.length < N → YieldAt Fence.wide m Tryz.prog l #[.int .i64 (S.hd x)] W fun e W' => (e = .returned (.bool true) ∧ J (pre ++ [x]) W' ∧ KpV P W W') ∨ (e = .returned (.bool false) ∧ Jx (pre ++ [x]) W')) :
    ∀ (f i : Nat) (n : Nd), S.at i = some n → 128 - d i = f → WkCV R l P N S K w0 J Jx f i := by
  intro f
  induction f with
  | zero =>
    intro i n hi hf
    have hK : K i = [] := by
      cases e : K i with
      | nil => rfl
      | cons k t =>
        have h1 := hL.dep i k (by rw [e]; simp)
        have h2 := hL.low k
        omega
    exact walkV_step hV h0 hL hJ hY 0 i n hi (by rw [hK]; rfl) (fun k hk => by rw [hK] at hk; cases hk)
  | succ f ih =>
    intro i n hi hf
    refine walkV_step hV h0 hL hJ hY (f + 1) i n hi rfl (fun k hk => ?_)
    obtain ⟨j, hj⟩ := List.mem_iff_getElem?.1 hk
    obtain ⟨nk, hnk⟩ := hL.some hj
    have hdk := hL.dep i k hk
    have hlow := hL.low k
    exact ih k nk hnk (by omega)
abbrev Sl (S : Tr) : Type := {x : Nat // (S.at x).isSome = true}
theorem yield_mono {m : Nat} {P : Program} {l : Nat} {args : Array Value} {W : World} {R R' : Ending → World → Prop} (h : YieldAt Fence.wide m P l args W R) (hR : ∀ e w, R e w → R' e w) : YieldAt Fence.wide m P l args W R' := by
  obtain ⟨fn, tmps, assign, body, hy, h1⟩ := h
  exact ⟨fn, tmps, assign, body, hy, RoundIn.mono h1 hR⟩
set_option maxRecDepth 100000 in
set_option maxHeartbeats 4000000 in
theorem walk1_v {P : Nat → Obj → Prop} {B R g cap i Bs Bh n : Nat} {S : Tr} {fv : Value} {w0 w : World} {K : Nat → List Nat} {d : Nat → Nat} (hV : VOk P w0.heap.size) (h0 : ∀ W, KpV P w0 W → TAt B R S (.slice (some ⟨g, 0, none⟩) S.slots.length cap) fv W) (hL : Lk S K d) (nd : Nd) (hi : S.at i = some nd)
    (hI : KpV P w0 w) (hBs : Blk w Bs [.pointer (some ⟨R, 0, none⟩)] 25) (hBh : Blk w Bh [.int .i64 (S.hd i)] 3) :
    SeqStopsK Fence.wide n Tryz.prog 136 #[.pointer (some ⟨Bs, 0, none⟩), .pointer (some ⟨Bh, 0, none⟩)] (fun x : Sl S => #[Value.int .i64 (S.hd x.1)]) (KpV P) (fun ys => ys.map (·.1) = wlk K (128 - d i) i) (fun ys => ys.map (·.1) <+: wlk K (128 - d i) i) (wlk K (128 - d i) i).length w := by
  intro l J Jx W hW hJ hJx hY hj
  have hIW := hI.trans (KpV.below hW)
  have hix : S.ix (S.hd i) = some i := hd_ix hL hi
  have HAt := Lib.hid (at_some (h0 _ hIW) (S.hd i) (hd_ok hL hi).1 hix)
  have c0 := (hBs.below hW).cell 0
  have c1 := (hBh.below hW).cell 0
  simp only [List.getElem?_cons_zero] at c0 c1
  have HW := Lib.hid (fun W1 (hb : Below W.heap.size W W1) => walkV_in (N := (wlk K (128 - d i) i).length) (l := l) (J := fun s W => ∃ s' : List (Sl S), s'.map (·.1) = s ∧ J s' W) (Jx := fun s W => ∃ s' : List (Sl S), s'.map (·.1) = s ∧ Jx s' W) hV h0 hL (fun s W W' hs hb => by
    obtain ⟨s', e, hs⟩ := hs
    exact ⟨s', e, hJ s' W W' none hs (grown_of_below hb) (fun r e => by cases e)⟩) (fun m pre x W hx hp hl => by
    obtain ⟨s', e, hs⟩ := hp
    refine yield_mono (yield_any m (hY s' ⟨x, hx⟩ W hs (by rw [← e, List.length_map] at hl; exact hl))) ?_
    rintro e2 W2 (⟨h1, h2, h3⟩ | ⟨h1, h2⟩)
    · exact .inl ⟨h1, ⟨s' ++ [⟨x, hx⟩], by rw [List.map_append, e]; rfl, h2⟩, h3⟩
    · exact .inr ⟨h1, _, by rw [List.map_append, e]; rfl, h2⟩) (128 - d i) i nd hi rfl (n - 1) [] W1 (hIW.trans (KpV.below hb)) ⟨[], rfl, hJ _ _ _ none hj (grown_of_below hb) (fun r e => by cases e)⟩ (by simp))
  have HBs := Lib.hid (hBs.below hW)
  have HBh := Lib.hid (hBh.below hW)
  clear hY hj hJ hJx hI hIW hBs hBh
  refine callsIn_of_wp Tryz.func136 rfl trivial ?_ rfl
  simp only [Tryz.ntmps136, List.size_toArray, List.length_cons, List.length_nil, Nat.reduceAdd, Nat.reduceSub, Array.replicate_succ, Array.replicate_zero, List.push_toArray, List.append_toArray, List.nil_append, List.cons_append]
  gi_wp2
  refine ⟨trivial, fun h => (by cases h), (callsIn_wide.2 HAt.out).mono ?_⟩
  rintro e W1 ⟨rfl, hb1⟩
  have HW1 := Lib.hid (HW.out W1 hb1)
  have d0 := (HBs.out.below hb1).cell 0
  have d1 := (HBh.out.below hb1).cell 0
  simp only [List.getElem?_cons_zero] at d0 d1
  clear hb1 c0 c1 HW
  gi_wp2
  refine ⟨trivial, fun h => (by cases h), HW1.out.mono ?_⟩
  rintro e W2 (⟨rfl, hj2, hk2⟩ | ⟨rfl, q, hq2, hx2⟩)
  · have HJ2 := Lib.hid hj2
    clear hj2 hk2
    gi_wp2
    go_end0
    obtain ⟨s', e, h⟩ := HJ2.out
    exact ⟨⟨_, rfl⟩, .inl ⟨s', by simpa using e, h⟩⟩
  · have HX := Lib.hid hx2
    have HQ := Lib.hid hq2
    clear hx2 hq2
    gi_wp2
    go_end0
    obtain ⟨s', e, h⟩ := HX.out
    exact ⟨⟨_, rfl⟩, .inr ⟨s', by rw [e]; simpa using HQ.out, h⟩⟩
end Go.Proofs.YtacdbnhnhdlmpaaGreatDoor.W
end
section
namespace Go.Proofs.YtacdbnhnhdlmpaaGreatDoor.W
open Go.RowKit




end Go.Proofs.YtacdbnhnhdlmpaaGreatDoor.W
end
