/- Texts joined: McpP RegZ Mcpy Col Rem AtS Lng. -/
import Derived.Test.YtacdbnhnhdlmpaaGreatDoorFU24
import Derived.Test.YtacdbnhnhdlmpaaGreatDoorFU23
import Derived.Test.YtacdbnhnhdlmpaaGreatDoorFU20
import Derived.Deep.CutBlock
import Derived.Deep.DeepCutAuto
import Derived.Test.YtacdbnhnhdlmpaaGreatDoorFU10
import Derived.Maps.Own
import Derived.Maps.Views
import Derived.StringKeys
import Derived.Test.YtacdbnhnhdlmpaaGreatDoorFU13
set_option maxRecDepth 100000
set_option maxHeartbeats 40000000
set_option linter.unusedVariables false
set_option linter.unusedSimpArgs false
section
namespace Go.Proofs.YtacdbnhnhdlmpaaGreatDoor.W
open Go.RowKit
end Go.Proofs.YtacdbnhnhdlmpaaGreatDoor.W
end
section
namespace Go.Proofs.YtacdbnhnhdlmpaaGreatDoor.W.RZ
open Go
open Go.Proofs.YtacdbnhnhdlmpaaGreatDoor.W
section
variable {P : Program} {ops : Array Oper} {md : Region.Mode} {m : Nat}
def lex4 (md : Region.Mode) (ops : Array Oper) (m t : Nat) : Nat → Nat → Array Bool → Bool
  | 0, _, listed => (Region.ready md ops listed).all (fun j => decide (m ≤ j)) && tail4 md ops t m listed
  | n + 1, k, listed => (Region.ready md ops listed).contains k && Region.free md ops listed k && lex4 md ops m t n (k + 1) (listed.setIfInBounds k true)
end
structure Pl where
  S : World → Prop
  C : List Value → List Ob → World → Prop
  V : List Value → Value → Prop
  made : Nat → Nat → Value
  cs : Nat → List Value
  ty : Nat → TypeId
section
variable (P : Program) (ops : Array Oper) (L : Pl)
def madeRun (o : Oper) (a : Act) (mk : Nat → Value) (cs : List Value) (t : TypeId) : Prop := ∀ w, (execOp a.eval o).run P w = .ok (.value (mk w.heap.size)) (w.alloc (.cells cs.toArray t))
def callRunX (o : Oper) (a : Act) (k : List Value) (X0 : List Ob) : Prop :=
  (∃ v, L.V k v) ∧ ∀ X w, (∀ b ∈ X0, b ∈ X) → L.C k X w → (∃ f args, (execOp a.eval o).run P w = .ok (.enter f args) w ∧ Calls P f args w (fun e w' => ∃ v, e = .returned v ∧ L.V k v ∧ L.C (v :: k) X w')) ∨ (∃ v w', (execOp a.eval o).run P w = .ok (.value v) w' ∧ L.V k v ∧ L.C (v :: k) X w') ∨ (∃ w', (execOp a.eval o).run P w = .ok .skip w' ∧ L.V k undef ∧ L.C (undef :: k) X w')
end
section
variable {P : Program} {ops : Array Oper} {L : Pl} {Q : List Value → List Ob → Act → Prop} {i : Nat} {k : List Value} {X : List Ob} {o : Oper} {rest : List Oper} {a : Act}
theorem held_one {S : World → Prop} [hne : Nonempty (InS S)] {v v' : Value} (h : heldRun P S o a v) (h' : heldRun P S o a v') : v = v' := by
  obtain ⟨x⟩ := hne
  rcases h x.w x.h with e | ⟨e, rfl⟩ <;> rcases h' x.w x.h with e' | ⟨e', rfl⟩
  · rw [e] at e'; simpa using e'
  · rw [e] at e'; simp at e'
  · rw [e] at e'; simp at e'
  · rfl
end
end Go.Proofs.YtacdbnhnhdlmpaaGreatDoor.W.RZ
end
section
namespace Go.Proofs.YtacdbnhnhdlmpaaGreatDoor.W
open Go.RowKit
end Go.Proofs.YtacdbnhnhdlmpaaGreatDoor.W
end
section
namespace Go.Proofs.YtacdbnhnhdlmpaaGreatDoor.W
open Go.RowKit
attribute [local go_sem] Oper.semAt_some
end Go.Proofs.YtacdbnhnhdlmpaaGreatDoor.W
end
section
namespace Go.Proofs.YtacdbnhnhdlmpaaGreatDoor.W
open Go.RowKit
theorem rc_one (w : World) (c : List Value) {B : Nat} (hB : B ≤ w.heap.size) (hc : c.length = 11) : RcAt (w.alloc (.cells c.toArray 152)) B (.slice (some ⟨w.heap.size, 0, none⟩) 1 1) [c] := by
  obtain ⟨h1, h2⟩ := own_at (n := 1) (size := 11) (Blk.new w c 152) (by omega) (by omega)
  refine ⟨by simpa using h1, ?_⟩
  rcases h2 with ⟨e, _⟩ | ⟨g', cap, cur, e, _, rest⟩
  · cases e
  · cases e; exact .inr ⟨w.heap.size, _, cur, rfl, hB, by simpa using rest⟩
set_option maxRecDepth 100000 in
set_option maxHeartbeats 4000000 in
theorem remove_top {B R g cap : Nat} {S : Tr} {fv : Value} {w : World} {K : Nat → List Nat} {d : Nat → Nat} (h : TAt B R S (.slice (some ⟨g, 0, none⟩) S.slots.length cap) fv w) (hL : Lk S K d) (c : Nat) (nc : Nd) (hc : S.at c = some nc) (hk : nc.kind ≠ 1) (hdet : ∀ q, c ∉ K q) :
    Calls Tryz.prog 54 #[.pointer (some ⟨R, 0, none⟩), .int .i64 (S.hd c)] w fun e w' => e = .returned (.tuple #[.slice none 0 0, .int .i64 0]) ∧ Below w.heap.size w w' := by
  have HC := Lib.hid (at_some h (S.hd c) (hd_ok hL hc).1 (hd_ix hL hc))
  have H0 := Lib.hid (fun wx (hb : Below w.heap.size w wx) => nd_cell (h.below hb) hc 0 (by omega))
  have H4 := Lib.hid (fun wx (hb : Below w.heap.size w wx) => nd_cell (h.below hb) hc 4 (by omega))
  simp only [ndC, List.getElem?_cons_succ, List.getElem?_cons_zero] at H0 H4
  rw [(hL.top c nc hc hdet).1] at H4
  have hk1 : (nc.kind == 1) = false := by simpa using hk
  clear h hL hc hdet
  go_enter Tryz.func54, Tryz.ntmps54
  go_wp2_with fail
  refine HC.out.mono ?_
  rintro e w1 ⟨rfl, hb1⟩
  have c0 := H0.out _ hb1
  have c4 := H4.out _ hb1
  go_wp2_with fail
  go_ret2
  exact ⟨rfl, hb1⟩
set_option maxRecDepth 100000 in
set_option maxHeartbeats 4000000 in
theorem remove_kid {B R g cap : Nat} {S : Tr} {fv : Value} {w : World} {K : Nat → List Nat} {d : Nat → Nat} (h : TAt B R S (.slice (some ⟨g, 0, none⟩) S.slots.length cap) fv w) (hL : Lk S K d) (q i c : Nat) (nc : Nd) (hc : S.at c = some nc) (hk : nc.kind ≠ 1) (hi : (K q)[i]? = some c) :
    Calls Tryz.prog 54 #[.pointer (some ⟨R, 0, none⟩), .int .i64 (S.hd c)] w fun e w' => ∃ S' v, Cutd S S' (K q) q i c ∧ e = .returned (.tuple #[v, .int .i64 0]) ∧ RcAt w' w.heap.size v [recC 2 (S.hd q) (S.hd c) nc.prev nc.next i [] [] false 0 0] ∧
      TAt B R S' (.slice (some ⟨g, 0, none⟩) S'.slots.length cap) fv w' ∧ Chg (fun k => k = g) w w' := by
  obtain ⟨nq, hnq⟩ := Option.isSome_iff_exists.1 (hL.kin q c (List.mem_of_getElem? hi)).1
  have hq0 : ¬ S.hd q = 0 := by have := (hd_ok hL hnq).2; omega
  have hq1 : (S.hd q == 0) = false := by simpa using hq0
  have HC := Lib.hid (at_some h (S.hd c) (hd_ok hL hc).1 (hd_ix hL hc))
  have H0 := Lib.hid (fun wx (hb : Below w.heap.size w wx) => nd_cell (h.below hb) hc 0 (by omega))
  have H4 := Lib.hid (fun wx (hb : Below w.heap.size w wx) => nd_cell (h.below hb) hc 4 (by omega))
  simp only [ndC, List.getElem?_cons_succ, List.getElem?_cons_zero] at H0 H4
  rw [(hL.kid q i c nc hi hc).1] at H4
  have HU := Lib.hid (fun wx (hb : Below w.heap.size w wx) => unlink_any (h.below hb) hL q i c nc hi hc)
  have hk1 : (nc.kind == 1) = false := by simpa using hk
  clear h hL hc hi hnq
  go_enter Tryz.func54, Tryz.ntmps54
  go_wp2_with fail
  refine HC.out.mono ?_
  rintro e w1 ⟨rfl, hb1⟩
  have c0 := H0.out _ hb1
  have c4 := H4.out _ hb1
  go_wp2_with fail
  refine (HU.out _ hb1).mono ?_
  rintro e w7 ⟨S1, hcut, rfl, hT7, hC7⟩
  have HT7 := Lib.hid hT7
  have HC7 := Lib.hid hC7
  have hs7 := Nat.le_trans hb1.size hC7.size
  clear hT7 hC7 HU c0 c4 H0 H4
  simp only [recC, strV]
  go_wp2_with fail
  go_ret2
  exact ⟨S1, _, hcut, rfl, rc_one w7 _ hs7 rfl, HT7.out.below ((Below.refl _ w7).alloc (Nat.le_refl _) _), ((Chg.of_below hb1).trans HC7.out (fun _ _ h => h)).alloc _⟩
set_option maxRecDepth 100000 in
set_option maxHeartbeats 4000000 in
theorem insert_no {B R g cap : Nat} {S : Tr} {fv : Value} {w : World} {K : Nat → List Nat} {d : Nat → Nat} (h : TAt B R S (.slice (some ⟨g, 0, none⟩) S.slots.length cap) fv w) (hL : Lk S K d) (p c : Nat) (o : Option Nat) (np nc : Nd) (hp : S.at p = some np) (hc : S.at c = some nc) (ho : ∀ b, o = some b → (S.at b).isSome = true)
    (hmay : mayB S K d p c np nc = false) :
    Calls Tryz.prog 57 #[.pointer (some ⟨R, 0, none⟩), .int .i64 (S.hd p), .int .i64 (S.hd c), .int .i64 (hO S o)] w fun e w' => e = .returned (.tuple #[.slice none 0 0, .int .i64 10]) ∧ Below w.heap.size w w' := by
  have HP := Lib.hid (fun wx (hb : Below w.heap.size w wx) => at_some (h.below hb) (S.hd p) (hd_ok hL hp).1 (hd_ix hL hp))
  have HC := Lib.hid (fun wx (hb : Below w.heap.size w wx) => at_some (h.below hb) (S.hd c) (hd_ok hL hc).1 (hd_ix hL hc))
  have HM := Lib.hid (fun wx (hb : Below w.heap.size w wx) => may_any (h.below hb) hL p c np nc hp hc)
  rw [hmay] at HM
  cases o with
  | none =>
    rw [show hO S none = 0 from rfl]
    clear h hL hp hc hmay ho
    go_enter Tryz.func57, Tryz.ntmps57
    go_wp2_with fail
    refine (HP.out _ (Below.refl _ _)).mono ?_
    rintro e w1 ⟨rfl, hb1⟩
    go_wp2_with fail
    refine (HC.out _ hb1).mono ?_
    rintro e w2 ⟨rfl, hb2⟩
    have hB2 := bthen hb1 hb2
    go_wp2_with fail
    refine (HM.out _ hB2).mono ?_
    rintro e w3 ⟨rfl, hb3⟩
    have hB3 := bthen hB2 hb3
    go_wp2_with fail
    go_ret2
    exact ⟨rfl, hB3⟩
  | some b =>
    obtain ⟨nb, hb⟩ := Option.isSome_iff_exists.1 (ho b rfl)
    have HB := Lib.hid (fun wx (hb' : Below w.heap.size w wx) => at_some (h.below hb') (S.hd b) (hd_ok hL hb).1 (hd_ix hL hb))
    have hb0 : ¬ S.hd b = 0 := by have := (hd_ok hL hb).2; omega
    have hb1' : (S.hd b == 0) = false := by simpa using hb0
    rw [show hO S (some b) = S.hd b from rfl]
    clear h hL hp hc hmay ho hb
    go_enter Tryz.func57, Tryz.ntmps57
    go_wp2_with fail
    refine (HP.out _ (Below.refl _ _)).mono ?_
    rintro e w1 ⟨rfl, hb1⟩
    go_wp2_with fail
    refine (HC.out _ hb1).mono ?_
    rintro e w2 ⟨rfl, hb2⟩
    have hB2 := bthen hb1 hb2
    go_wp2_with fail
    refine (HB.out _ hB2).mono ?_
    rintro e w2' ⟨rfl, hb2'⟩
    have hB2' := bthen hB2 hb2'
    go_wp2_with fail
    refine (HM.out _ hB2').mono ?_
    rintro e w3 ⟨rfl, hb3⟩
    have hB3 := bthen hB2' hb3
    go_wp2_with fail
    go_ret2
    exact ⟨rfl, hB3⟩
set_option maxRecDepth 100000 in
set_option maxHeartbeats 4000000 in
theorem insert_far {B R g cap : Nat} {S : Tr} {fv : Value} {w : World} {K : Nat → List Nat} {d : Nat → Nat} (h : TAt B R S (.slice (some ⟨g, 0, none⟩) S.slots.length cap) fv w) (hL : Lk S K d) (p c : Nat) (o : Option Nat) (np nc : Nd) (hp : S.at p = some np) (hc : S.at c = some nc) (ho : ∀ b, o = some b → b ∈ K p)
    (hmay : mayB S K d p c np nc = true) (hdep : 128 < d p + hgt K (128 - d c) c) :
    Calls Tryz.prog 57 #[.pointer (some ⟨R, 0, none⟩), .int .i64 (S.hd p), .int .i64 (S.hd c), .int .i64 (hO S o)] w fun e w' => e = .returned (.tuple #[.slice none 0 0, .int .i64 5]) ∧ Below w.heap.size w w' := by
  cases o with
  | none => exact insert_deep h hL p c np nc hp hc hmay hdep
  | some b =>
    have HP := Lib.hid (fun wx (hb : Below w.heap.size w wx) => at_some (h.below hb) (S.hd p) (hd_ok hL hp).1 (hd_ix hL hp))
    have HC := Lib.hid (fun wx (hb : Below w.heap.size w wx) => at_some (h.below hb) (S.hd c) (hd_ok hL hc).1 (hd_ix hL hc))
    have HM := Lib.hid (fun wx (hb : Below w.heap.size w wx) => may_any (h.below hb) hL p c np nc hp hc)
    rw [hmay] at HM
    have HD := Lib.hid (fun wx (hb : Below w.heap.size w wx) => depth_any (h.below hb) hL p np hp)
    have HH := Lib.hid (fun wx (hb : Below w.heap.size w wx) => height_any hL (128 - d c) c nc hc rfl wx (h.below hb))
    have hhc := hgt_le K (128 - d c) c
    have hlow := hL.low p
    have hbm := ho b rfl
    obtain ⟨nb, hb⟩ := Option.isSome_iff_exists.1 (hL.kin p b hbm).2
    obtain ⟨jb, hjb⟩ := List.mem_iff_getElem?.1 hbm
    have hbp : nb.parent = S.hd p := (hL.kid p jb b nb hjb hb).1
    have HB := Lib.hid (fun wx (hb' : Below w.heap.size w wx) => at_some (h.below hb') (S.hd b) (hd_ok hL hb).1 (hd_ix hL hb))
    have HB4 := Lib.hid (fun wx (hb' : Below w.heap.size w wx) => nd_cell (h.below hb') hb 4 (by omega))
    simp only [ndC, hbp] at HB4
    have hb0 : ¬ S.hd b = 0 := by have := (hd_ok hL hb).2; omega
    have hb1' : (S.hd b == 0) = false := by simpa using hb0
    rw [show hO S (some b) = S.hd b from rfl]
    clear h hL hp hc hmay ho hb hbp hjb hbm
    generalize hgt K (128 - d c) c = hc1 at *
    have d5 : decide ((128 : Int) < (d p : Int) + (hc1 : Int)) = true := by simp; omega
    go_enter Tryz.func57, Tryz.ntmps57
    go_wp2_with fail
    refine (HP.out _ (Below.refl _ _)).mono ?_
    rintro e w1 ⟨rfl, hb1⟩
    go_wp2_with fail
    refine (HC.out _ hb1).mono ?_
    rintro e w2 ⟨rfl, hb2⟩
    have hB2 := bthen hb1 hb2
    go_wp2_with fail
    refine (HB.out _ hB2).mono ?_
    rintro e w2' ⟨rfl, hb2'⟩
    have hB2' := bthen hB2 hb2'
    go_wp2_with fail
    refine (HM.out _ hB2').mono ?_
    rintro e w3 ⟨rfl, hb3⟩
    have hB3 := bthen hB2' hb3
    go_wp2_with fail
    refine (HB.out _ hB3).mono ?_
    rintro e w3' ⟨rfl, hb3'⟩
    have hB3' := bthen hB3 hb3'
    have cb4 := HB4.out _ hB3'
    simp only [List.getElem?_cons_succ, List.getElem?_cons_zero] at cb4
    go_wp2_with fail
    clear cb4
    refine (HD.out _ hB3').mono ?_
    rintro e w4 ⟨rfl, hb4⟩
    have hB4 := bthen hB3' hb4
    go_wp2_with fail
    refine (HH.out _ hB4).mono ?_
    rintro e w5 ⟨rfl, hb5⟩
    have hB5 := bthen hB4 hb5
    go_wp2_with fail
    go_ret2
    exact ⟨rfl, hB5⟩
theorem zeroB (w : World) : (zeroValue 4).run Tryz.prog w = .ok (.bool false) w := by kernel_rfl
noncomputable abbrev pB : Value → Option (DataW Unit × List MemPlace) := plainElem Tryz.prog 4
theorem plainElem_bool_inv {P : Program} {e : TypeId} (he : P.underlying e = some .bool) {v : Value} {z : DataW Unit × List MemPlace} (h : plainElem P e v = some z) : ∃ c, v = .bool c ∧ z = (.lit (.bool c), []) := by
  unfold plainElem at h
  rw [he] at h
  cases v <;> simp at h
  exact ⟨_, rfl, h.symm⟩
theorem lookup_bool {w : World} {b n : Nat} {D : DataW Unit} (h : w.ownsMap Tryz.prog 9 pB b n D) (s : ByteArray) (hs : s.size ≤ maxLen) : ∃ c, (Instr.lookup 197 (.map (some b)) (.string s) false).run Tryz.prog w = .ok (.bool c) w ∧ D.atKey (.string s.data.toList) (.lit (.bool false)) = .lit (.bool c) := by
  obtain ⟨v, ps, hrun, hv⟩ := h.lookup (Maps.string_keyed Tryz.underlying9) Tryz.underlying197 (zeroB w) (plainElem_bool Tryz.underlying4 false) (WideMaps.keyOf_string_mk Tryz.underlying9 hs)
  obtain ⟨c, rfl, hc⟩ := plainElem_bool_inv Tryz.underlying4 hv
  simp only [Prod.mk.injEq] at hc
  exact ⟨c, hrun, hc.1⟩
theorem update_bool {w : World} {b n : Nat} {D : DataW Unit} (h : w.ownsMap Tryz.prog 9 pB b n D) (hn : n ≤ 1000) (s : ByteArray) (hs : s.size ≤ maxLen) : ∃ w', (Instr.mapUpdate 197 (.map (some b)) (.string s) (.bool true)).run Tryz.prog w = .ok () w' ∧ w'.ownsMap Tryz.prog 9 pB b (n + 1) (D.put (.string s.data.toList) (.lit (.bool true))) ∧ w.grownBy w' (some b) :=
  h.update (Maps.string_keyed Tryz.underlying9) Tryz.underlying197 (by unfold maxLen; omega) (WideMaps.keyOf_string_mk Tryz.underlying9 hs) (plainElem_bool Tryz.underlying4 true)
theorem ownsMap_heap {w w' : World} {b n : Nat} {D : DataW Unit} (h : w.ownsMap Tryz.prog 9 pB b n D) (e : w'.heap[b]? = w.heap[b]?) : w'.ownsMap Tryz.prog 9 pB b n D := by
  obtain ⟨es, clock, h1, h2⟩ := h
  exact ⟨es, clock, e.trans h1, h2⟩
theorem ownsMap_below {w w' : World} {b n : Nat} {D : DataW Unit} (h : w.ownsMap Tryz.prog 9 pB b n D) (hb : Below w.heap.size w w') : w'.ownsMap Tryz.prog 9 pB b n D := ownsMap_heap h (hb.block b h.lt)
def Nmd (al : List Atr) (i : Nat) (D : DataW Unit) : Prop := Maps.IsMap D ∧ ∀ s : List UInt8, D.atKey (.string s) (.lit (.bool false)) = .lit (.bool (decide (s ∈ (al.take i).map (·.1))))
theorem Nmd.zero (al : List Atr) : Nmd al 0 (.map []) := ⟨Maps.isMap_empty, fun s => by simp [DataW.atKey]⟩
theorem Nmd.put {al : List Atr} {i : Nat} {D : DataW Unit} (h : Nmd al i D) {y : Atr} (hy : al[i]? = some y) : Nmd al (i + 1) (D.put (.string y.1) (.lit (.bool true))) := by
  refine ⟨h.1.put _ _, fun s => ?_⟩
  have e : (al.take (i + 1)).map (·.1) = (al.take i).map (·.1) ++ [y.1] := by rw [List.take_add_one, hy]; simp
  rw [e]
  by_cases hs : s = y.1
  · subst hs
    rw [Maps.atKey_put_same h.1 (by trivial)]
    simp
  · rw [Maps.atKey_put_other (by intro e2; exact hs (by cases e2; rfl)), h.2 s]
    simp [hs]
def AtL (w : World) (al : List Atr) (iv : Value) (wr : World) : Prop :=
  ∃ (i : Nat) (D : DataW Unit), i ≤ al.length ∧ iv = .int .i64 (i : Int) ∧ NmsOk al i ∧ wr.ownsMap Tryz.prog 9 pB w.heap.size i D ∧ Nmd al i D ∧ Below w.heap.size w wr
set_option maxRecDepth 100000 in
set_option maxHeartbeats 4000000 in
theorem attrs_any (al : List Atr) (hal : al.length ≤ 100) (has : ∀ a ∈ al, a.1.length ≤ 1000 ∧ a.2.length ≤ 1000) (v : Value) (w : World) (hT : Laid w) (hv : Own w 85 2 v al.length (attrC al)) :
    Calls Tryz.prog 108 #[v] w fun e w' => e = .returned (.bool (namesB al)) ∧ Below w.heap.size w w' := by
  have hmm := @run_makeMap Tryz.prog
  have HHd := Lib.hid (fun (a : Atr) (ha : a ∈ al) wx (hx : Below w.heap.size w wx) => attrName_b a.1 (by have := (has a ha).1; omega) wx (hT.below hx))
  have HSz := Lib.hid (fun (a : Atr) (ha : a ∈ al) => (show (⟨a.1.toArray⟩ : ByteArray).size ≤ maxLen from by have := (has a ha).1; unfold maxLen; rw [bsz]; omega))
  obtain ⟨va0, vc0, rfl⟩ := own_shape hv
  have HVc := Lib.hid (fun (j : Nat) (y : Atr) (hy : al[j]? = some y) wx (hb : Below w.heap.size w wx) => (show ∃ ga, va0 = some ⟨ga, 0, none⟩ ∧ ga < w.heap.size ∧ wx.cell? ⟨ga, j * 2, none⟩ = some (.string ⟨y.1.toArray⟩) ∧ wx.cell? ⟨ga, j * 2 + 1, none⟩ = some (.string ⟨y.2.toArray⟩) from by
    have hl := (List.getElem?_eq_some_iff.1 hy).1
    obtain ⟨ga, hga⟩ : ∃ g, va0 = some ⟨g, 0, none⟩ := by
      rcases hv.2 with ⟨e, e2⟩ | ⟨g, cap, cur, e, _⟩
      · omega
      · simp only [Value.slice.injEq] at e; exact ⟨g, e.1⟩
    subst hga
    have ho := own_belowM hv hb
    have h1 := own_news ho (2 * j) _ (attrC_at al j y hy).1
    have h2 := own_news ho (2 * j + 1) _ (attrC_at al j y hy).2
    rw [Go.WideShapes.add_plain, Nat.zero_add] at h1 h2
    exact ⟨ga, rfl, own_lt hv rfl, by rw [Nat.mul_comm]; exact h1, by rw [Nat.mul_comm j]; exact h2⟩))
  clear hv has hT
  go_enter Tryz.func108, Tryz.ntmps108
  go_wp2_with fail
  go_loopw [9] (fun iv wr => AtL w al iv wr) (fun iv _ => al.length - intN iv)
  case atStart => exact ⟨0, .map [], by omega, rfl, fun j y hj => absurd hj (by omega), World.ownsMap_made _ _ _ _, Nmd.zero al, (Below.refl _ _).alloc (Nat.le_refl _) _⟩
  case round =>
    obtain ⟨i, D, hi, rfl, hnm, hown, hnd, hbr⟩ := hrel
    have HNm := Lib.hid hnm
    have HOr := Lib.hid hown
    have HBr := Lib.hid hbr
    have HNd := Lib.hid hnd
    clear hnm hown hnd hbr
    by_cases hil : i < al.length
    · obtain ⟨y, hy⟩ : ∃ y, al[i]? = some y := ⟨_, List.getElem?_eq_getElem hil⟩
      have hym := List.mem_of_getElem? hy
      obtain ⟨ga, rfl, hga, cn, cv⟩ := HVc.out i y hy _ HBr.out
      have HY := Lib.hid hy
      have HYm := Lib.hid hym
      clear hy hym
      go_wp2_with fail
      have hb1 : Below wr.heap.size wr (wr.alloc (.cells #[.string ⟨y.1.toArray⟩, .string ⟨y.2.toArray⟩] 85)) := (Below.refl _ _).alloc (Nat.le_refl _) _
      have hbx := bthen HBr.out hb1
      have k1 := Blk.new wr [.string ⟨y.1.toArray⟩, .string ⟨y.2.toArray⟩] 85
      refine (HHd.out y HYm.out _ hbx).mono ?_
      rintro e w4 ⟨rfl, hb4⟩
      have HB4 := Lib.hid (bthen hbx hb4)
      have k4 := Blk.below k1 hb4
      have HO4 := Lib.hid (ownsMap_below (ownsMap_below HOr.out hb1) hb4)
      have hne : wr.heap.size ≠ w.heap.size := by have := HOr.out.lt; omega
      clear hb4 cn cv HOr HBr hb1 hbx k1
      have c0 := k4.cell 0
      simp only [List.getElem?_cons_zero] at c0
      have K4 := Lib.hid k4
      clear k4
      have hsz := HSz.out y HYm.out
      cases hhd : headB y.1
      · have HN := Lib.hid (namesB_no1 HY.out hhd)
        clear hhd
        go_wp2_with fail
        go_ret
        exact ⟨by rw [HN.out]; rfl, HB4.out⟩
      have HHx := Lib.hid hhd
      clear hhd
      obtain ⟨c, hrun, hat⟩ := lookup_bool HO4.out ⟨y.1.toArray⟩ hsz
      have hat2 := HNd.out.2 y.1
      rw [show (⟨y.1.toArray⟩ : ByteArray).data.toList = y.1 from rfl] at hat
      rw [hat] at hat2
      cases c
      · obtain ⟨w5, hst, ho5, hg5⟩ := update_bool HO4.out (by omega) ⟨y.1.toArray⟩ hsz
        have HAt := Lib.hid hat2
        have HO5 := Lib.hid ho5
        have HB5 := Lib.hid (show Below w.heap.size w w5 from ⟨hg5.os.trans HB4.out.os, hg5.tape.trans HB4.out.tape, hg5.output.trans HB4.out.output, by have := HB4.out.size; have := hg5.size; omega, fun k hk => (hg5.block k (by have := HB4.out.size; omega) (by simp; omega)).trans (HB4.out.block k hk)⟩)
        have c5 : w5.cell? ⟨wr.heap.size, 0, none⟩ = _ := (K4.out.kept (hg5.block _ K4.out.lt (by simpa using hne))).cell 0
        simp only [List.getElem?_cons_zero] at c5
        clear hat hat2 ho5 hg5
        go_wp2_with fail
        refine ⟨⟨i + 1, _, by omega, by simp, ?_, HO5.out, HNd.out.put HY.out, HB5.out⟩, by simp only [intN]; omega⟩
        intro j z hj hz
        by_cases e : j = i
        · subst e
          rw [HY.out] at hz; cases hz
          refine ⟨HHx.out, fun k z hk hz e => ?_⟩
          have := HAt.out
          simp only [DataW.lit.injEq, Lit.bool.injEq] at this
          have hm : y.1 ∈ (al.take j).map (·.1) := List.mem_map.2 ⟨z, List.mem_of_getElem? (by rw [List.getElem?_take, if_pos hk]; exact hz), e⟩
          exact of_decide_eq_false this.symm hm
        · exact HNm.out j z (by omega) hz
      · have HAt := Lib.hid hat2
        clear hat hat2
        go_wp2_with fail
        go_ret
        have hm : y.1 ∈ (al.take i).map (·.1) := by
          have := HAt.out
          simp only [DataW.lit.injEq, Lit.bool.injEq] at this
          exact of_decide_eq_true this.symm
        obtain ⟨z, hz, hzy⟩ := List.mem_map.1 hm
        obtain ⟨k, hk⟩ := List.mem_iff_getElem?.1 hz
        rw [List.getElem?_take] at hk
        by_cases hki : k < i
        · rw [if_pos hki] at hk
          exact ⟨by rw [namesB_no2 HY.out hk hki hzy]; rfl, HB4.out⟩
        · rw [if_neg hki] at hk; cases hk
    · obtain rfl : i = al.length := by omega
      have hn := namesB_yes HNm.out
      go_wp2_with fail
      go_ret
      exact ⟨by rw [hn]; rfl, HBr.out⟩
theorem mk1_any (s : List UInt8) (a : ByteArray) (hs : s.length ≤ 1048576) (w : World) : Calls Tryz.prog 111 #[.agg #[.string a, .string ⟨s.toArray⟩]] w fun e w' => e = .returned (.bool false) ∧ Below w.heap.size w w' := by
  have HL := Lib.hid (fun wx => long_any ⟨s.toArray⟩ (by rw [bsz]; omega) wx)
  have hd : decide (1048576 < (⟨s.toArray⟩ : ByteArray).size) = false := by rw [bsz]; simp; omega
  have c1 := (Blk.new w [.string a, .string ⟨s.toArray⟩] 85).cell 1
  simp only [List.getElem?_cons_succ, List.getElem?_cons_zero] at c1
  go_enter Tryz.func111, Tryz.ntmps111
  go_wp2_with fail
  refine (HL.out _).mono ?_
  rintro e w2 ⟨rfl, rfl⟩
  rw [hd]
  go_wp2_with fail
  go_ret
  exact ⟨rfl, (Below.refl _ _).alloc (Nat.le_refl _) _⟩
set_option maxRecDepth 100000 in
set_option maxHeartbeats 2000000 in
theorem index_lng {B : Nat} {w : World} {v : Value} {l : List (List UInt8 × List UInt8)} (h : AttrAt B w v l) (hl : l.length ≤ 1000) (has : ∀ a ∈ l, a.2.length ≤ 1048576) :
    Calls Tryz.prog 134 #[v, .func (.func 111) #[] #[]] w fun e w' => e = .returned (.int .i64 (-1)) ∧ Below w.heap.size w w' := by
  obtain ⟨va, vc, rfl, hcs⟩ := h
  have HC := Lib.hid hcs
  have HA := Lib.hid has
  clear hcs has
  go_enter Tryz.func134, Tryz.ntmps134
  go_wp2_with fail
  go_loopw [8] (fun iv wr => ∃ k : Nat, k ≤ l.length ∧ iv = .int .i64 (k : Int) ∧ Below w.heap.size w wr) (fun iv _ => l.length - intN iv)
  case atStart => exact ⟨0, Nat.zero_le _, rfl, Below.refl _ _⟩
  case round =>
    obtain ⟨k, hk, rfl, hB⟩ := hrel
    by_cases hkl : k < l.length
    · obtain ⟨y, hy⟩ : ∃ y, l[k]? = some y := ⟨_, List.getElem?_eq_getElem hkl⟩
      rcases HC.out with rfl | ⟨vg, cur, rfl, _, hgg, hcc⟩
      · simp at hkl
      have hgl := lt_of_block hgg
      have q0 : wr.cell? ⟨vg, k * 2, none⟩ = some (strV y.1) := by
        rw [hB.cell (p := ⟨vg, k * 2, none⟩) hgl, show k * 2 = 2 * k by omega]
        rw [Lib.cell_of_heap hgg]
        exact (hcc k y hy).1
      have q1 : wr.cell? ⟨vg, k * 2 + 1, none⟩ = some (strV y.2) := by
        rw [hB.cell (p := ⟨vg, k * 2 + 1, none⟩) hgl, show k * 2 + 1 = 2 * k + 1 by omega]
        rw [Lib.cell_of_heap hgg]
        exact (hcc k y hy).2
      have HP1 := Lib.hid (mk1_any y.2 ⟨y.1.toArray⟩ (HA.out y (List.mem_of_getElem? hy)) wr)
      clear hy hgg hcc
      simp only [strV] at q0 q1
      go_wp2_with fail
      refine HP1.out.mono ?_
      rintro e w2 ⟨rfl, hb2⟩
      go_wp2_with fail
      exact ⟨⟨k + 1, by omega, by go_num, hB.trans (hb2.mono hB.size)⟩, by simp only [intN]; omega⟩
    · go_wp2_with fail
      go_ret
      exact ⟨rfl, hB⟩
theorem contains_lng {B : Nat} {w : World} {v : Value} {l : List (List UInt8 × List UInt8)} (h : AttrAt B w v l) (hl : l.length ≤ 1000) (has : ∀ a ∈ l, a.2.length ≤ 1048576) :
    Calls Tryz.prog 110 #[v, .func (.func 111) #[] #[]] w fun e w' => e = .returned (.bool false) ∧ Below w.heap.size w w' := by
  have H := Lib.hid (index_lng h hl has)
  clear h
  go_enter Tryz.func110, Tryz.ntmps110
  go_wp2_with fail
  refine H.out.mono ?_
  rintro e w' ⟨rfl, hw⟩
  go_wp2_with fail
  go_ret
  exact ⟨rfl, hw⟩
end Go.Proofs.YtacdbnhnhdlmpaaGreatDoor.W
end
