/- The contracts of Index, depth and Contains. -/
import Derived.Test.YtfelmdkeaacfeaaDoorLk
namespace Go.Proofs.YtfelmdkeaacfeaaDoor.W
open Go.RowKit
set_option linter.unusedVariables false
set_option linter.unusedSimpArgs false

/-- a node's address, nil for none -/
def ptr (g : Nat) : Option Nat → Value
  | none => .pointer none
  | some k => .pointer (some (na g k))
def UsedO (S : Tr) (o : Option Nat) : Prop := ∀ k, o = some k → (S.at k).isSome = true
theorem hO_ok {S K d} (h : Lk S K d) {o : Option Nat} (hu : UsedO S o) : HOk (hO S o) := by
  cases o with
  | none => exact hok_zero
  | some k => obtain ⟨n, hn⟩ := Option.isSome_iff_exists.1 (hu k rfl); exact (hd_ok h hn).1
theorem hO_ix {S K d} (h : Lk S K d) {o : Option Nat} (hu : UsedO S o) : S.ix (hO S o) = o := by
  cases o with
  | none => exact ix_zero S
  | some k => obtain ⟨n, hn⟩ := Option.isSome_iff_exists.1 (hu k rfl); exact hd_ix h hn
theorem hO_zero {S K d} (h : Lk S K d) {o : Option Nat} (hu : UsedO S o) : hO S o = 0 ↔ o = none := by
  cases o with
  | none => simp [hO]
  | some k => obtain ⟨n, hn⟩ := Option.isSome_iff_exists.1 (hu k rfl); have := (hd_ok h hn).2; simp only [hO]; constructor
              · intro e; omega
              · intro e; cases e
theorem at_opt {B R g cap : Nat} {S : Tr} {fv : Value} {w : World} {K d} (h : TAt B R S (.slice (some ⟨g, 0, none⟩) S.slots.length cap) fv w) (hL : Lk S K d) (o : Option Nat) (hu : UsedO S o) :
    Calls Tryd.prog 18 #[.pointer (some ⟨R, 0, none⟩), .int .i64 (hO S o)] w fun e w' => e = .returned (ptr g o) ∧ Below w.heap.size w w' := by
  have hix := hO_ix hL hu
  cases o with
  | none => exact at_none h _ (hO_ok hL hu) hix
  | some k => exact at_some h _ (hO_ok hL hu) hix

/-- the parent of a node -/
theorem par_of {S K d} (h : Lk S K d) {x : Nat} {n : Nd} (hx : S.at x = some n) : ∃ o : Option Nat, n.parent = hO S o ∧ UsedO S o ∧ (o = none → d x = 1 ∧ ∀ p, x ∉ K p) ∧ (∀ p, o = some p → x ∈ K p ∧ d x = d p + 1) := by
  by_cases hp : ∃ p, x ∈ K p
  · obtain ⟨p, hp⟩ := hp
    obtain ⟨j, hj⟩ := List.mem_iff_getElem?.1 hp
    refine ⟨some p, (h.kid p j x n hj hx).1, fun k hk => by cases hk; exact (h.kin p x hp).1, fun e => (by cases e), fun q hq => by cases hq; exact ⟨hp, h.dep p x hp⟩⟩
  · have hp' : ∀ p, x ∉ K p := fun p hx => hp ⟨p, hx⟩
    exact ⟨none, (h.top x n hx hp').1, fun k hk => (by cases hk), fun _ => ⟨h.one x (by rw [hx]; rfl) hp', hp'⟩, fun q hq => (by cases hq)⟩

/-- the one before -/
def pv (l : List Nat) (j : Nat) : Option Nat := if j = 0 then none else l[j - 1]?
def IxR (w : World) (S : Tr) (l : List Nat) (j : Nat) (cv kv : Value) (wr : World) : Prop :=
  ∃ c : Nat, c ≤ j ∧ cv = .int .i64 (c : Int) ∧ kv = .int .i64 (hO S (pv l (j - c))) ∧ Below w.heap.size w wr

set_option maxRecDepth 100000 in
set_option maxHeartbeats 4000000 in
theorem index_kid {B R g cap : Nat} {S : Tr} {fv : Value} {w : World} {K : Nat → List Nat} {d : Nat → Nat} (h : TAt B R S (.slice (some ⟨g, 0, none⟩) S.slots.length cap) fv w) (hL : Lk S K d) (p j i : Nat) (hj : (K p)[j]? = some i) :
    Calls Tryd.prog 37 #[.pointer (some ⟨R, 0, none⟩), .int .i64 (S.hd i)] w fun e w' => e = .returned (.int .i64 (j : Int)) ∧ Below w.heap.size w w' := by
  obtain ⟨n, hi⟩ := hL.some hj
  have hkl := kids_len hL p
  have hjl : j < (K p).length := (List.getElem?_eq_some_iff.1 hj).1
  obtain ⟨np, hp⟩ := Option.isSome_iff_exists.1 (hL.kin p i (List.mem_of_getElem? hj)).1
  have hne : ¬ S.hd p = 0 := by have := (hd_ok hL hp).2; omega
  have hne2 : (S.hd p == 0) = false := by simpa using hne
  have HA := Lib.hid (at_some h (S.hd i) (hd_ok hL hi).1 (hd_ix hL hi))
  have HT := Lib.hid h
  have HL := Lib.hid hL
  have c4 := nd_cell h hi 4 (by omega)
  have c7 := nd_cell h hi 7 (by omega)
  simp only [ndC, List.getElem?_cons_succ, List.getElem?_cons_zero] at c4 c7
  obtain ⟨k1, k2, _⟩ := hL.kid p j i n hj hi
  rw [k1] at c4
  rw [k2, show (if j = 0 then none else (K p)[j - 1]?) = pv (K p) j from rfl] at c7
  generalize S.hd p = hp1 at *
  clear h hL hi k1 k2 hp
  go_enter Tryd.func37, Tryd.ntmps37
  go_wp2_with fail
  refine HA.out.mono ?_
  rintro e w2 ⟨rfl, hb2⟩
  have d4 := cell_keep hb2 c4
  have d7 := cell_keep hb2 c7
  clear c4 c7
  go_wp2_with fail
  go_loopw [6, 7] (fun cv kv wr => IxR w S (K p) j cv kv wr) (fun cv _ _ => j - (intOf cv).toNat)
  case atStart => exact ⟨0, by omega, rfl, rfl, hb2⟩
  case round =>
    obtain ⟨c, hc, rfl, rfl, hB⟩ := hrel
    by_cases hlt : c < j
    · obtain ⟨k, hk⟩ : ∃ k, (K p)[j - c - 1]? = some k := ⟨_, List.getElem?_eq_getElem (by omega)⟩
      obtain ⟨nk, hnk⟩ := HL.out.some hk
      have hpv : pv (K p) (j - c) = some k := by unfold pv; rw [if_neg (by omega)]; exact hk
      have hnp : nk.prev = hO S (pv (K p) (j - (c + 1))) := by
        have := (HL.out.kid p (j - c - 1) k nk hk hnk).2.1
        rw [this]; rfl
      have hpos := (hd_ok HL.out hnk).2
      have HA2 := Lib.hid (at_some (HT.out.below hB) (S.hd k) (hd_ok HL.out hnk).1 (hd_ix HL.out hnk))
      have HC := Lib.hid (fun wx (hb : Below w.heap.size w wx) => nd_cell (HT.out.below hb) hnk 7 (by omega))
      have hkne : ¬ S.hd k = 0 := by omega
      have hkne2 : (S.hd k == 0) = false := by simpa using hkne
      rw [hpv, show hO S (Option.some k) = S.hd k from rfl]
      generalize S.hd k = hk1 at *
      clear hk
      go_wp2_with fail
      refine HA2.out.mono ?_
      rintro e w6 ⟨rfl, hb6⟩
      have hB6 := hB.trans (hb6.mono hB.size)
      have c8 := HC.out _ hB6
      rw [show (ndC nk)[7]? = Option.some (.int .i64 nk.prev) from rfl, hnp] at c8
      go_wp2_with fail
      exact ⟨⟨c + 1, by omega, by go_num, rfl, hB6⟩, by simp [intOf]; omega⟩
    · obtain rfl : c = j := by omega
      rw [Nat.sub_self, show hO S (pv (K p) 0) = 0 from rfl]
      go_wp2_with fail
      go_ret
      exact ⟨rfl, hB⟩

set_option maxRecDepth 100000 in
set_option maxHeartbeats 4000000 in
theorem index_top {B R g cap : Nat} {S : Tr} {fv : Value} {w : World} {K : Nat → List Nat} {d : Nat → Nat} (h : TAt B R S (.slice (some ⟨g, 0, none⟩) S.slots.length cap) fv w) (hL : Lk S K d) (i : Nat) (n : Nd) (hi : S.at i = some n) (h0 : n.parent = 0) :
    Calls Tryd.prog 37 #[.pointer (some ⟨R, 0, none⟩), .int .i64 (S.hd i)] w fun e w' => e = .returned (.int .i64 (-1)) ∧ Below w.heap.size w w' := by
  have HA := Lib.hid (at_some h (S.hd i) (hd_ok hL hi).1 (hd_ix hL hi))
  have c4 := nd_cell h hi 4 (by omega)
  simp only [ndC, List.getElem?_cons_succ, List.getElem?_cons_zero] at c4
  rw [h0] at c4
  clear h hL hi
  go_enter Tryd.func37, Tryd.ntmps37
  go_wp2_with fail
  refine HA.out.mono ?_
  rintro e w2 ⟨rfl, hb2⟩
  have d4 := cell_keep hb2 c4
  go_wp2_with fail
  go_ret
  exact ⟨rfl, hb2⟩

/-- the loop of depth -/
def DpR (w : World) (S : Tr) (g : Nat) (d : Nat → Nat) (i : Nat) (dv nv : Value) (wr : World) : Prop :=
  ∃ o : Option Nat, UsedO S o ∧ nv = ptr g o ∧ dv = .int .i64 ((d i - (match o with | none => 0 | some x => d x) : Nat) : Int) ∧ (∀ x, o = some x → d x ≤ d i) ∧ Below w.heap.size w wr

set_option maxRecDepth 100000 in
set_option maxHeartbeats 4000000 in
theorem depth_any {B R g cap : Nat} {S : Tr} {fv : Value} {w : World} {K : Nat → List Nat} {d : Nat → Nat} (h : TAt B R S (.slice (some ⟨g, 0, none⟩) S.slots.length cap) fv w) (hL : Lk S K d) (i : Nat) (n : Nd) (hi : S.at i = some n) :
    Calls Tryd.prog 20 #[.pointer (some ⟨R, 0, none⟩), .int .i64 (S.hd i)] w fun e w' => e = .returned (.int .i64 (d i : Int)) ∧ Below w.heap.size w w' := by
  have HA := Lib.hid (at_some h (S.hd i) (hd_ok hL hi).1 (hd_ix hL hi))
  have HT := Lib.hid h
  have HL := Lib.hid hL
  have hlow := hL.low
  have hui : (S.at i).isSome = true := by rw [hi]; rfl
  clear h hL hi
  go_enter Tryd.func20, Tryd.ntmps20
  go_wp2_with fail
  refine HA.out.mono ?_
  rintro e w2 ⟨rfl, hb2⟩
  go_wp2_with fail
  go_loopw [5, 6] (fun dv nv wr => DpR w S g d i dv nv wr) (fun dv nv _ => match nv with | .pointer none => 0 | _ => d i + 1 - (intOf dv).toNat)
  case atStart => exact ⟨some i, fun k hk => by cases hk; exact hui, rfl, by simp, fun x hx => by cases hx; exact Nat.le_refl _, hb2⟩
  case round =>
    obtain ⟨o, hu, rfl, rfl, hd, hB⟩ := hrel
    cases o with
    | none =>
      rw [show ptr g none = .pointer none from rfl]
      simp only [Nat.sub_zero]
      go_wp2_with fail
      go_ret
      exact ⟨rfl, hB⟩
    | some x =>
      obtain ⟨nx, hx⟩ := Option.isSome_iff_exists.1 (hu x rfl)
      obtain ⟨o2, hpar, hu2, hn1, hn2⟩ := par_of HL.out hx
      have HA2 := Lib.hid (at_opt (HT.out.below hB) HL.out o2 hu2)
      have cx := nd_cell (HT.out.below hB) hx 4 (by omega)
      rw [show (ndC nx)[4]? = Option.some (.int .i64 nx.parent) from rfl, hpar] at cx
      have hdx := hd x rfl
      have hdi := hlow i
      have hdx1 : 1 ≤ d x := by
        cases o2 with
        | none => have := (hn1 rfl).1; omega
        | some p => have := (hn2 p rfl).2; omega
      rw [show ptr g (Option.some x) = .pointer (Option.some (na g x)) from rfl]
      simp only []
      go_wp2_with fail
      refine HA2.out.mono ?_
      rintro e w6 ⟨rfl, hb6⟩
      have hB6 := hB.trans (hb6.mono hB.size)
      go_wp2_with fail
      refine ⟨⟨o2, hu2, rfl, ?_, ?_, hB6⟩, ?_⟩
      · congr 1
        cases o2 with
        | none => have := (hn1 rfl).1; simp only []; omega
        | some p => have := (hn2 p rfl).2; simp only []; omega
      · intro y hy
        have := (hn2 y hy).2
        omega
      · cases o2 with
        | none => simp [ptr, intOf]; omega
        | some p => simp [ptr, intOf]; omega

/-- the parent of a node, by its slot -/
def pr (S : Tr) (i : Nat) : Option Nat := (S.at i).bind fun n => S.ix n.parent
/-- is a the node or one above it -/
def contB (S : Tr) (a : Nat) : Nat → Option Nat → Bool
  | 0, _ => false
  | _, none => false
  | f + 1, some x => a == x || contB S a f (pr S x)
def dO (d : Nat → Nat) : Option Nat → Nat
  | none => 0
  | some x => d x
theorem pr_of {S K d} (h : Lk S K d) {x : Nat} {n : Nd} (hx : S.at x = some n) {o : Option Nat} (hp : n.parent = hO S o) (hu : UsedO S o) : pr S x = o := by
  unfold pr; rw [hx, Option.bind_some, hp, hO_ix h hu]

/-- the loop of Contains -/
def CnR (w : World) (S : Tr) (g : Nat) (d : Nat → Nat) (a b : Nat) (bv nv : Value) (wr : World) : Prop :=
  ∃ o : Option Nat, UsedO S o ∧ bv = .int .i64 (hO S o) ∧ nv = ptr g o ∧ contB S a (d b) (some b) = contB S a (dO d o) o ∧ Below w.heap.size w wr
def hnum : Value → Int
  | .int _ n => n
  | _ => 0

set_option maxRecDepth 100000 in
set_option maxHeartbeats 4000000 in
theorem contains_any {B R g cap : Nat} {S : Tr} {fv : Value} {w : World} {K : Nat → List Nat} {d : Nat → Nat} (h : TAt B R S (.slice (some ⟨g, 0, none⟩) S.slots.length cap) fv w) (hL : Lk S K d) (a b : Nat) (na' nb : Nd) (ha : S.at a = some na') (hb : S.at b = some nb) :
    Calls Tryd.prog 35 #[.pointer (some ⟨R, 0, none⟩), .int .i64 (S.hd a), .int .i64 (S.hd b)] w fun e w' => e = .returned (.bool (contB S a (d b) (some b))) ∧ Below w.heap.size w w' := by
  have HA := Lib.hid (at_some h (S.hd a) (hd_ok hL ha).1 (hd_ix hL ha))
  have HB := Lib.hid (fun wx (hbx : Below w.heap.size w wx) => at_some (h.below hbx) (S.hd b) (hd_ok hL hb).1 (hd_ix hL hb))
  have HT := Lib.hid h
  have HL := Lib.hid hL
  have hub : (S.at b).isSome = true := by rw [hb]; rfl
  have HAA := Lib.hid ha
  clear h hL hb ha
  go_enter Tryd.func35, Tryd.ntmps35
  go_wp2_with fail
  refine HA.out.mono ?_
  rintro e w2 ⟨rfl, hb2⟩
  go_wp2_with fail
  refine (HB.out _ hb2).mono ?_
  rintro e w3 ⟨rfl, hb3⟩
  have hB3 := hb2.trans (hb3.mono hb2.size)
  go_wp2_with fail
  go_loopw [2, 7] (fun bv nv wr => CnR w S g d a b bv nv wr) (fun bv _ _ => dO d (S.ix (hnum bv)))
  case atStart => exact ⟨some b, fun k hk => by cases hk; exact hub, rfl, rfl, rfl, hB3⟩
  case round =>
    obtain ⟨o, hu, rfl, rfl, hc, hB⟩ := hrel
    cases o with
    | none =>
      have HC := Lib.hid hc
      clear hc
      rw [show ptr g none = .pointer none from rfl]
      go_wp2_with fail
      go_ret
      exact ⟨by rw [HC.out]; rfl, hB⟩
    | some x =>
      obtain ⟨nx, hx⟩ := Option.isSome_iff_exists.1 (hu x rfl)
      obtain ⟨o2, hpar, hu2, hn1, hn2⟩ := par_of HL.out hx
      have hpr := pr_of HL.out hx hpar hu2
      have HA2 := Lib.hid (fun wx (hb : Below wr.heap.size wr wx) => at_opt ((HT.out.below hB).below hb) HL.out o2 hu2)
      have cx := nd_cell (HT.out.below hB) hx 4 (by omega)
      rw [show (ndC nx)[4]? = Option.some (.int .i64 nx.parent) from rfl, hpar] at cx
      have hdd : d x = dO d o2 + 1 := by
        cases o2 with
        | none => exact (hn1 rfl).1
        | some p => exact (hn2 p rfl).2
      have hstep : contB S a (dO d (Option.some x)) (Option.some x) = (a == x || contB S a (dO d o2) o2) := by
        show contB S a (d x) (Option.some x) = _
        rw [hdd, show contB S a (dO d o2 + 1) (Option.some x) = (a == x || contB S a (dO d o2) (pr S x)) from rfl, hpr]
      have hixx : S.ix (S.hd x) = Option.some x := hd_ix HL.out hx
      have hix2 := hO_ix HL.out hu2
      rw [show ptr g (Option.some x) = .pointer (Option.some (na g x)) from rfl, show hO S (Option.some x) = S.hd x from rfl]
      have hall := (HL.out).few
      by_cases hax : a = x
      · subst hax
        have HC := Lib.hid (hc.trans (hstep.trans (show _ = true by simp)))
        clear hc hstep
        go_wp2_with fail
        go_ret
        exact ⟨by rw [HC.out]; rfl, hB⟩
      · have hne : ¬ S.hd a = S.hd x := fun e => hax (hdl_inj (by have := at_lt HAA.out; omega) (by have := at_lt hx; omega) e)
        have hne2 : (S.hd a == S.hd x) = false := by simpa using hne
        have HC := Lib.hid (hc.trans (hstep.trans (show _ = contB S a (dO d o2) o2 by
          have : (a == x) = false := by simpa using hax
          rw [this, Bool.false_or])))
        clear hc hstep
        go_wp2_with fail
        refine (HA2.out _ (Below.refl _ _)).mono ?_
        rintro e w6 ⟨rfl, hb6⟩
        have hB6 := hB.trans (hb6.mono hB.size)
        go_wp2_with fail
        refine ⟨⟨o2, hu2, rfl, rfl, HC.out, hB6⟩, ?_⟩
        simp only [hnum]
        rw [hix2, hixx]
        show dO d o2 < d x
        omega
end Go.Proofs.YtfelmdkeaacfeaaDoor.W
