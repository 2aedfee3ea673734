/- Texts joined: Lk LkB Hgt. -/
import Derived.Test.YtacdbnhnhdlmpaaGreatDoorFB2
import Derived.OwnWalk
import Derived.WalkSpells
set_option maxRecDepth 100000
set_option maxHeartbeats 40000000
set_option linter.unusedVariables false
set_option linter.unusedSimpArgs false
section
namespace Go.Proofs.YtacdbnhnhdlmpaaGreatDoor.W
open Go.RowKit
def Tr.at (S : Tr) (i : Nat) : Option Nd := (S.slots[i]?).join
theorem at_slot {S : Tr} {i : Nat} {n : Nd} (h : S.at i = some n) : S.slots[i]? = some (some n) := by
  unfold Tr.at at h
  cases e : S.slots[i]? with
  | none => rw [e] at h; cases h
  | some x => rw [e] at h; simp at h; rw [h]
theorem at_lt {S : Tr} {i : Nat} {n : Nd} (h : S.at i = some n) : i < S.slots.length := (List.getElem?_eq_some_iff.1 (at_slot h)).1
theorem at_of {S : Tr} {i : Nat} {n : Nd} (h : S.slots[i]? = some (some n)) : S.at i = some n := by unfold Tr.at; rw [h]; rfl
def hO (S : Tr) : Option Nat → Int
  | none => 0
  | some i => S.hd i
structure Lk (S : Tr) (K : Nat → List Nat) (d : Nat → Nat) : Prop where
  kin : ∀ p k, k ∈ K p → (S.at p).isSome = true ∧ (S.at k).isSome = true
  node : ∀ i n, S.at i = some n → n.first = hO S (K i)[0]? ∧ n.last = hO S (K i).getLast?
  kid : ∀ p j k n, (K p)[j]? = some k → S.at k = some n → n.parent = S.hd p ∧ n.prev = hO S (if j = 0 then none else (K p)[j - 1]?) ∧ n.next = hO S (K p)[j + 1]?
  top : ∀ i n, S.at i = some n → (∀ p, i ∉ K p) → n.parent = 0 ∧ n.prev = 0 ∧ n.next = 0
  nodup : ∀ p, (K p).Nodup
  dep : ∀ p k, k ∈ K p → d k = d p + 1
  one : ∀ i, (S.at i).isSome = true → (∀ p, i ∉ K p) → d i = 1
  low : ∀ i, d i ≤ 128
  few : S.slots.length ≤ 1000000
theorem Lk.some {S K d} (h : Lk S K d) {p j k : Nat} (hk : (K p)[j]? = some k) : ∃ n, S.at k = some n := Option.isSome_iff_exists.1 (h.kin p k (List.mem_of_getElem? hk)).2
theorem hd_ok {S K d} (h : Lk S K d) {i : Nat} {n : Nd} (hi : S.at i = some n) : HOk (S.hd i) ∧ 1 ≤ S.hd i := hdl_ok _ _ _ (by have := at_lt hi; have := h.few; omega)
theorem hd_ix {S K d} (h : Lk S K d) {i : Nat} {n : Nd} (hi : S.at i = some n) : S.ix (S.hd i) = some i := ix_hd (by have := h.few; omega) (at_slot hi)
theorem nodup_len : ∀ (n : Nat) (l : List Nat), l.Nodup → (∀ x ∈ l, x < n) → l.length ≤ n
  | 0, [], _, _ => Nat.le_refl _
  | 0, x :: l, _, h => absurd (h x (by simp)) (by omega)
  | n + 1, l, hn, h => by
    have ih := nodup_len n (l.erase n) (hn.erase n) (fun x hx => by
      have h1 := (hn.mem_erase_iff).1 hx
      have := h x h1.2
      omega)
    rw [List.length_erase] at ih
    split at ih <;> omega
theorem kids_len {S K d} (h : Lk S K d) (p : Nat) : (K p).length ≤ 1000000 := by
  have := nodup_len S.slots.length (K p) (h.nodup p) (fun k hk => by
    obtain ⟨n, hn⟩ := Option.isSome_iff_exists.1 (h.kin p k hk).2
    exact at_lt hn)
  have := h.few
  omega
theorem infoI : (Tryz.prog.info? 3).map (fun i => (i.zero, i.size, i.bytes)) = some (some (.int .i64 0), 1, 8) := by kernel_rfl
def hC (l : List Int) : List Value := l.map (Value.int .i64)
theorem cell_keep {w w' : World} (hb : Below w.heap.size w w') {a : Addr} {v : Value} (h : w.cell? a = some v) : w'.cell? a = some v := by
  rw [hb.cell (p := a) (World.block_lt_of_cell? w a h)]; exact h
theorem own_keepB {w w' : World} {B e sz n : Nat} {v : Value} {xs : List Value} (h : w.ownsRow B e sz v n xs) (hb : Below w.heap.size w w') : w'.ownsRow B e sz v n xs :=
  h.kept (row := none) ⟨hb.os, hb.tape, hb.output, hb.size, fun k hk _ => hb.block k hk⟩ (by cases e : v.ownBlock with | none => exact Or.inl rfl | some g => exact Or.inr (by simp))
def slen : Value → Nat
  | .slice _ k _ => k
  | _ => 0
theorem own_sl {w : World} {B e sz n : Nat} {v : Value} {xs : List Value} (h : w.ownsRow B e sz v n xs) : slen v = n := by
  rcases h.2 with ⟨rfl, e⟩ | ⟨g, cap, cur, rfl, _⟩
  · rw [e]; rfl
  · rfl
theorem nd_cell {B R g cap : Nat} {S : Tr} {fv : Value} {w : World} (h : TAt B R S (.slice (some ⟨g, 0, none⟩) S.slots.length cap) fv w) {i : Nat} {n : Nd} (hn : S.at i = some n) (j : Nat) (hj : j < 9) :
    w.cell? ⟨g, i * 10 + 1 + j, none⟩ = (ndC n)[j]? := by
  have := slot_cell h (at_slot hn) (1 + j) (by omega)
  rw [← Nat.add_assoc] at this
  rw [this, Nat.add_comm 1 j]
  rfl
def KdR (w : World) (S : Tr) (l : List Nat) (ov kv : Value) (wr : World) : Prop :=
  ∃ (j : Nat) (v : Value), j ≤ l.length ∧ v = ov ∧ kv = .int .i64 (hO S l[j]?) ∧ wr.ownsRow w.heap.size 3 1 v j (hC ((l.take j).map S.hd)) ∧ Below w.heap.size w wr
set_option maxRecDepth 100000 in
set_option maxHeartbeats 4000000 in
theorem kids_any {B R g cap : Nat} {S : Tr} {fv : Value} {w : World} {K : Nat → List Nat} {d : Nat → Nat} (h : TAt B R S (.slice (some ⟨g, 0, none⟩) S.slots.length cap) fv w) (hL : Lk S K d) (i : Nat) (n : Nd) (hi : S.at i = some n) :
    Calls Tryz.prog 142 #[.pointer (some ⟨R, 0, none⟩), .int .i64 (S.hd i)] w fun e w' => ∃ v, e = .returned v ∧ w'.ownsRow w.heap.size 3 1 v (K i).length (hC ((K i).map S.hd)) ∧ Below w.heap.size w w' := by
  have HA := Lib.hid (at_some h (S.hd i) (hd_ok hL hi).1 (hd_ix hL hi))
  have HT := Lib.hid h
  have HL := Lib.hid hL
  have HI := Lib.hid hi
  have hkl := kids_len hL i
  have cf := nd_cell h hi 5 (by omega)
  simp only [ndC, List.getElem?_cons_succ, List.getElem?_cons_zero] at cf
  obtain ⟨i0, hi0, hz0, hz1, hz2⟩ := info_parts infoI
  rw [(hL.node i n hi).1] at cf
  clear h hL hi
  go_enter Tryz.func142, Tryz.ntmps142
  go_wp2_with fail
  refine HA.out.mono ?_
  rintro e w2 ⟨rfl, hb2⟩
  have cf2 := cell_keep hb2 cf
  clear cf
  go_wp2_with fail
  go_loopw [6, 7] (fun ov kv wr => KdR w S (K i) ov kv wr) (fun ov _ _ => (K i).length - slen ov)
  case atStart => exact ⟨0, _, by omega, rfl, rfl, World.ownsRow_nil _ _ _ _, hb2⟩
  case round =>
    obtain ⟨j, ov, hj, rfl, rfl, hown, hB⟩ := hrel
    by_cases hlt : j < (K i).length
    · obtain ⟨k, hk⟩ : ∃ k, (K i)[j]? = some k := ⟨_, List.getElem?_eq_getElem hlt⟩
      obtain ⟨nk, hnk⟩ := HL.out.some hk
      have hpos := (hd_ok HL.out hnk).2
      have hho := (hd_ok HL.out hnk).1
      have HA2 := Lib.hid (fun wx (hb : Below w.heap.size w wx) => at_some (HT.out.below hb) (S.hd k) hho (hd_ix HL.out hnk))
      have HC := Lib.hid (fun wx (hb : Below w.heap.size w wx) => nd_cell (HT.out.below hb) hnk 8 (by omega))
      have hnext := (HL.out.kid i j k nk hk hnk).2.2
      have HO := Lib.hid (show ∀ A, (wr.alloc A).ownsRow w.heap.size 3 1 ov j (hC (((K i).take j).map S.hd)) from fun A => hown.alloc A)
      have HTK := Lib.hid (show hC (((K i).take (j + 1)).map S.hd) = hC (((K i).take j).map S.hd) ++ [.int .i64 (S.hd k)] by
        unfold hC; rw [List.take_add_one, hk]; simp)
      have hlt2 := fun g (hg : ov.ownBlock = some g) => (hown.lt g hg).1
      have hne : ¬ S.hd k = 0 := by omega
      have hne2 : (S.hd k == 0) = false := by simpa using hne
      rw [hk, show hO S (Option.some k) = S.hd k from rfl]
      have hsl := own_sl hown
      clear hown
      generalize S.hd k = hk1 at *
      generalize hC (((K i).take j).map S.hd) = XS at *
      go_wp2_with (at_builtin; refine wpList_append_own _ rfl _ _ 60 rfl w.heap.size 3 i0 _ 1 8 Tryz.underlying60 hi0 hz0 hz1 hz2 rfl (by decide) _ j _ rfl (HO.out _) _ 1 1 [.int .i64 hk1] rfl rfl (cell_one_new _ _ _) (by simp [Value.oneCell']) ?c1 ?c2 ?c3 ?_)
      case c1 => unfold maxLen; omega
      case c2 => omega
      case c3 => have := hB.size; simp; omega
      intro v' w5 hown5 hgr5 _
      rw [← HTK.out] at hown5
      have hB5 : Below w.heap.size w w5 := (hB.alloc hB.size _).grown hgr5 (by have := hB.size; simp; omega) hlt2
      have HW := Lib.hid hown5
      clear hown5 hgr5
      go_wp2_with fail
      refine (HA2.out _ hB5).mono ?_
      rintro e w6 ⟨rfl, hb6⟩
      have hB6 := hB5.trans (hb6.mono hB5.size)
      have c8 := HC.out _ hB6
      rw [show (ndC nk)[8]? = Option.some (.int .i64 nk.next) from rfl, hnext] at c8
      have hsl6 := own_sl HW.out
      have HW6 := Lib.hid (own_keepB HW.out hb6)
      clear HW
      go_wp2_with fail
      exact ⟨⟨j + 1, _, by omega, rfl, rfl, HW6.out, hB6⟩, by rw [hsl, hsl6]; omega⟩
    · obtain rfl : j = (K i).length := by omega
      rw [show (K i)[(K i).length]? = none from List.getElem?_eq_none (Nat.le_refl _)]
      rw [List.take_length] at hown
      have HW := Lib.hid hown
      clear hown
      rw [show hO S none = 0 from rfl]
      go_wp2_with fail
      go_ret
      exact ⟨_, rfl, HW.out, hB⟩
def ptr (g : Nat) : Option Nat → Value
  | none => .pointer none
  | some k => .pointer (some (na g k))
def UsedO (S : Tr) (o : Option Nat) : Prop := ∀ k, o = some k → (S.at k).isSome = true
theorem hO_ok {S K d} (h : Lk S K d) {o : Option Nat} (hu : UsedO S o) : HOk (hO S o) := by
  cases o with
  | none => exact hok_zero
  | some k => obtain ⟨n, hn⟩ := Option.isSome_iff_exists.1 (hu k rfl); exact (hd_ok h hn).1
theorem hO_ix {S K d} (h : Lk S K d) {o : Option Nat} (hu : UsedO S o) : S.ix (hO S o) = o := by
  cases o with
  | none => exact ix_zero S
  | some k => obtain ⟨n, hn⟩ := Option.isSome_iff_exists.1 (hu k rfl); exact hd_ix h hn
theorem at_opt {B R g cap : Nat} {S : Tr} {fv : Value} {w : World} {K d} (h : TAt B R S (.slice (some ⟨g, 0, none⟩) S.slots.length cap) fv w) (hL : Lk S K d) (o : Option Nat) (hu : UsedO S o) :
    Calls Tryz.prog 103 #[.pointer (some ⟨R, 0, none⟩), .int .i64 (hO S o)] w fun e w' => e = .returned (ptr g o) ∧ Below w.heap.size w w' := by
  have hix := hO_ix hL hu
  cases o with
  | none => exact at_none h _ (hO_ok hL hu) hix
  | some k => exact at_some h _ (hO_ok hL hu) hix
theorem par_of {S K d} (h : Lk S K d) {x : Nat} {n : Nd} (hx : S.at x = some n) : ∃ o : Option Nat, n.parent = hO S o ∧ UsedO S o ∧ (o = none → d x = 1 ∧ ∀ p, x ∉ K p) ∧ (∀ p, o = some p → x ∈ K p ∧ d x = d p + 1) := by
  by_cases hp : ∃ p, x ∈ K p
  · obtain ⟨p, hp⟩ := hp
    obtain ⟨j, hj⟩ := List.mem_iff_getElem?.1 hp
    refine ⟨some p, (h.kid p j x n hj hx).1, fun k hk => by cases hk; exact (h.kin p x hp).1, fun e => (by cases e), fun q hq => by cases hq; exact ⟨hp, h.dep p x hp⟩⟩
  · have hp' : ∀ p, x ∉ K p := fun p hx => hp ⟨p, hx⟩
    exact ⟨none, (h.top x n hx hp').1, fun k hk => (by cases hk), fun _ => ⟨h.one x (by rw [hx]; rfl) hp', hp'⟩, fun q hq => (by cases hq)⟩
def pv (l : List Nat) (j : Nat) : Option Nat := if j = 0 then none else l[j - 1]?
def IxR (w : World) (S : Tr) (l : List Nat) (j : Nat) (cv kv : Value) (wr : World) : Prop :=
  ∃ c : Nat, c ≤ j ∧ cv = .int .i64 (c : Int) ∧ kv = .int .i64 (hO S (pv l (j - c))) ∧ Below w.heap.size w wr
set_option maxRecDepth 100000 in
set_option maxHeartbeats 4000000 in
theorem index_kid {B R g cap : Nat} {S : Tr} {fv : Value} {w : World} {K : Nat → List Nat} {d : Nat → Nat} (h : TAt B R S (.slice (some ⟨g, 0, none⟩) S.slots.length cap) fv w) (hL : Lk S K d) (p j i : Nat) (hj : (K p)[j]? = some i) :
    Calls Tryz.prog 140 #[.pointer (some ⟨R, 0, none⟩), .int .i64 (S.hd i)] w fun e w' => e = .returned (.int .i64 (j : Int)) ∧ Below w.heap.size w w' := by
  obtain ⟨n, hi⟩ := hL.some hj
  have hkl := kids_len hL p
  have hjl : j < (K p).length := (List.getElem?_eq_some_iff.1 hj).1
  obtain ⟨np, hp⟩ := Option.isSome_iff_exists.1 (hL.kin p i (List.mem_of_getElem? hj)).1
  have hne : ¬ S.hd p = 0 := by have := (hd_ok hL hp).2; omega
  have hne2 : (S.hd p == 0) = false := by simpa using hne
  have HA := Lib.hid (at_some h (S.hd i) (hd_ok hL hi).1 (hd_ix hL hi))
  have HT := Lib.hid h
  have HL := Lib.hid hL
  have c4 := nd_cell h hi 4 (by omega)
  have c7 := nd_cell h hi 7 (by omega)
  simp only [ndC, List.getElem?_cons_succ, List.getElem?_cons_zero] at c4 c7
  obtain ⟨k1, k2, _⟩ := hL.kid p j i n hj hi
  rw [k1] at c4
  rw [k2, show (if j = 0 then none else (K p)[j - 1]?) = pv (K p) j from rfl] at c7
  generalize S.hd p = hp1 at *
  clear h hL hi k1 k2 hp
  go_enter Tryz.func140, Tryz.ntmps140
  go_wp2_with fail
  refine HA.out.mono ?_
  rintro e w2 ⟨rfl, hb2⟩
  have d4 := cell_keep hb2 c4
  have d7 := cell_keep hb2 c7
  clear c4 c7
  go_wp2_with fail
  go_loopw [6, 7] (fun cv kv wr => IxR w S (K p) j cv kv wr) (fun cv _ _ => j - (intOf cv).toNat)
  case atStart => exact ⟨0, by omega, rfl, rfl, hb2⟩
  case round =>
    obtain ⟨c, hc, rfl, rfl, hB⟩ := hrel
    by_cases hlt : c < j
    · obtain ⟨k, hk⟩ : ∃ k, (K p)[j - c - 1]? = some k := ⟨_, List.getElem?_eq_getElem (by omega)⟩
      obtain ⟨nk, hnk⟩ := HL.out.some hk
      have hpv : pv (K p) (j - c) = some k := by unfold pv; rw [if_neg (by omega)]; exact hk
      have hnp : nk.prev = hO S (pv (K p) (j - (c + 1))) := by
        have := (HL.out.kid p (j - c - 1) k nk hk hnk).2.1
        rw [this]; rfl
      have hpos := (hd_ok HL.out hnk).2
      have HA2 := Lib.hid (at_some (HT.out.below hB) (S.hd k) (hd_ok HL.out hnk).1 (hd_ix HL.out hnk))
      have HC := Lib.hid (fun wx (hb : Below w.heap.size w wx) => nd_cell (HT.out.below hb) hnk 7 (by omega))
      have hkne : ¬ S.hd k = 0 := by omega
      have hkne2 : (S.hd k == 0) = false := by simpa using hkne
      rw [hpv, show hO S (Option.some k) = S.hd k from rfl]
      generalize S.hd k = hk1 at *
      clear hk
      go_wp2_with fail
      refine HA2.out.mono ?_
      rintro e w6 ⟨rfl, hb6⟩
      have hB6 := hB.trans (hb6.mono hB.size)
      have c8 := HC.out _ hB6
      rw [show (ndC nk)[7]? = Option.some (.int .i64 nk.prev) from rfl, hnp] at c8
      go_wp2_with fail
      exact ⟨⟨c + 1, by omega, by go_num, rfl, hB6⟩, by simp [intOf]; omega⟩
    · obtain rfl : c = j := by omega
      rw [Nat.sub_self, show hO S (pv (K p) 0) = 0 from rfl]
      go_wp2_with fail
      go_ret
      exact ⟨rfl, hB⟩
def DpR (w : World) (S : Tr) (g : Nat) (d : Nat → Nat) (i : Nat) (dv nv : Value) (wr : World) : Prop :=
  ∃ o : Option Nat, UsedO S o ∧ nv = ptr g o ∧ dv = .int .i64 ((d i - (match o with | none => 0 | some x => d x) : Nat) : Int) ∧ (∀ x, o = some x → d x ≤ d i) ∧ Below w.heap.size w wr
set_option maxRecDepth 100000 in
set_option maxHeartbeats 4000000 in
theorem depth_any {B R g cap : Nat} {S : Tr} {fv : Value} {w : World} {K : Nat → List Nat} {d : Nat → Nat} (h : TAt B R S (.slice (some ⟨g, 0, none⟩) S.slots.length cap) fv w) (hL : Lk S K d) (i : Nat) (n : Nd) (hi : S.at i = some n) :
    Calls Tryz.prog 113 #[.pointer (some ⟨R, 0, none⟩), .int .i64 (S.hd i)] w fun e w' => e = .returned (.int .i64 (d i : Int)) ∧ Below w.heap.size w w' := by
  have HA := Lib.hid (at_some h (S.hd i) (hd_ok hL hi).1 (hd_ix hL hi))
  have HT := Lib.hid h
  have HL := Lib.hid hL
  have hlow := hL.low
  have hui : (S.at i).isSome = true := by rw [hi]; rfl
  clear h hL hi
  go_enter Tryz.func113, Tryz.ntmps113
  go_wp2_with fail
  refine HA.out.mono ?_
  rintro e w2 ⟨rfl, hb2⟩
  go_wp2_with fail
  go_loopw [5, 6] (fun dv nv wr => DpR w S g d i dv nv wr) (fun dv nv _ => match nv with | .pointer none => 0 | _ => d i + 1 - (intOf dv).toNat)
  case atStart => exact ⟨some i, fun k hk => by cases hk; exact hui, rfl, by simp, fun x hx => by cases hx; exact Nat.le_refl _, hb2⟩
  case round =>
    obtain ⟨o, hu, rfl, rfl, hd, hB⟩ := hrel
    cases o with
    | none =>
      rw [show ptr g none = .pointer none from rfl]
      simp only [Nat.sub_zero]
      go_wp2_with fail
      go_ret
      exact ⟨rfl, hB⟩
    | some x =>
      obtain ⟨nx, hx⟩ := Option.isSome_iff_exists.1 (hu x rfl)
      obtain ⟨o2, hpar, hu2, hn1, hn2⟩ := par_of HL.out hx
      have HA2 := Lib.hid (at_opt (HT.out.below hB) HL.out o2 hu2)
      have cx := nd_cell (HT.out.below hB) hx 4 (by omega)
      rw [show (ndC nx)[4]? = Option.some (.int .i64 nx.parent) from rfl, hpar] at cx
      have hdx := hd x rfl
      have hdi := hlow i
      have hdx1 : 1 ≤ d x := by
        cases o2 with
        | none => have := (hn1 rfl).1; omega
        | some p => have := (hn2 p rfl).2; omega
      rw [show ptr g (Option.some x) = .pointer (Option.some (na g x)) from rfl]
      simp only []
      go_wp2_with fail
      refine HA2.out.mono ?_
      rintro e w6 ⟨rfl, hb6⟩
      have hB6 := hB.trans (hb6.mono hB.size)
      go_wp2_with fail
      refine ⟨⟨o2, hu2, rfl, ?_, ?_, hB6⟩, ?_⟩
      · congr 1
        cases o2 with
        | none => have := (hn1 rfl).1; simp only []; omega
        | some p => have := (hn2 p rfl).2; simp only []; omega
      · intro y hy
        have := (hn2 y hy).2
        omega
      · cases o2 with
        | none => simp [ptr, intOf]; omega
        | some p => simp [ptr, intOf]; omega
def pr (S : Tr) (i : Nat) : Option Nat := (S.at i).bind fun n => S.ix n.parent
def contB (S : Tr) (a : Nat) : Nat → Option Nat → Bool
  | 0, _ => false
  | _, none => false
  | f + 1, some x => a == x || contB S a f (pr S x)
def dO (d : Nat → Nat) : Option Nat → Nat
  | none => 0
  | some x => d x
theorem pr_of {S K d} (h : Lk S K d) {x : Nat} {n : Nd} (hx : S.at x = some n) {o : Option Nat} (hp : n.parent = hO S o) (hu : UsedO S o) : pr S x = o := by
  unfold pr; rw [hx, Option.bind_some, hp, hO_ix h hu]
def CnR (w : World) (S : Tr) (g : Nat) (d : Nat → Nat) (a b : Nat) (bv nv : Value) (wr : World) : Prop :=
  ∃ o : Option Nat, UsedO S o ∧ bv = .int .i64 (hO S o) ∧ nv = ptr g o ∧ contB S a (d b) (some b) = contB S a (dO d o) o ∧ Below w.heap.size w wr
def hnum : Value → Int
  | .int _ n => n
  | _ => 0
set_option maxRecDepth 100000 in
set_option maxHeartbeats 4000000 in
theorem contains_any {B R g cap : Nat} {S : Tr} {fv : Value} {w : World} {K : Nat → List Nat} {d : Nat → Nat} (h : TAt B R S (.slice (some ⟨g, 0, none⟩) S.slots.length cap) fv w) (hL : Lk S K d) (a b : Nat) (na' nb : Nd) (ha : S.at a = some na') (hb : S.at b = some nb) :
    Calls Tryz.prog 97 #[.pointer (some ⟨R, 0, none⟩), .int .i64 (S.hd a), .int .i64 (S.hd b)] w fun e w' => e = .returned (.bool (contB S a (d b) (some b))) ∧ Below w.heap.size w w' := by
  have HA := Lib.hid (at_some h (S.hd a) (hd_ok hL ha).1 (hd_ix hL ha))
  have HB := Lib.hid (fun wx (hbx : Below w.heap.size w wx) => at_some (h.below hbx) (S.hd b) (hd_ok hL hb).1 (hd_ix hL hb))
  have HT := Lib.hid h
  have HL := Lib.hid hL
  have hub : (S.at b).isSome = true := by rw [hb]; rfl
  have HAA := Lib.hid ha
  clear h hL hb ha
  go_enter Tryz.func97, Tryz.ntmps97
  go_wp2_with fail
  refine HA.out.mono ?_
  rintro e w2 ⟨rfl, hb2⟩
  go_wp2_with fail
  refine (HB.out _ hb2).mono ?_
  rintro e w3 ⟨rfl, hb3⟩
  have hB3 := hb2.trans (hb3.mono hb2.size)
  go_wp2_with fail
  go_loopw [2, 7] (fun bv nv wr => CnR w S g d a b bv nv wr) (fun bv _ _ => dO d (S.ix (hnum bv)))
  case atStart => exact ⟨some b, fun k hk => by cases hk; exact hub, rfl, rfl, rfl, hB3⟩
  case round =>
    obtain ⟨o, hu, rfl, rfl, hc, hB⟩ := hrel
    cases o with
    | none =>
      have HC := Lib.hid hc
      clear hc
      rw [show ptr g none = .pointer none from rfl]
      go_wp2_with fail
      go_ret
      exact ⟨by rw [HC.out]; rfl, hB⟩
    | some x =>
      obtain ⟨nx, hx⟩ := Option.isSome_iff_exists.1 (hu x rfl)
      obtain ⟨o2, hpar, hu2, hn1, hn2⟩ := par_of HL.out hx
      have hpr := pr_of HL.out hx hpar hu2
      have HA2 := Lib.hid (fun wx (hb : Below wr.heap.size wr wx) => at_opt ((HT.out.below hB).below hb) HL.out o2 hu2)
      have cx := nd_cell (HT.out.below hB) hx 4 (by omega)
      rw [show (ndC nx)[4]? = Option.some (.int .i64 nx.parent) from rfl, hpar] at cx
      have hdd : d x = dO d o2 + 1 := by
        cases o2 with
        | none => exact (hn1 rfl).1
        | some p => exact (hn2 p rfl).2
      have hstep : contB S a (dO d (Option.some x)) (Option.some x) = (a == x || contB S a (dO d o2) o2) := by
        show contB S a (d x) (Option.some x) = _
        rw [hdd, show contB S a (dO d o2 + 1) (Option.some x) = (a == x || contB S a (dO d o2) (pr S x)) from rfl, hpr]
      have hixx : S.ix (S.hd x) = Option.some x := hd_ix HL.out hx
      have hix2 := hO_ix HL.out hu2
      rw [show ptr g (Option.some x) = .pointer (Option.some (na g x)) from rfl, show hO S (Option.some x) = S.hd x from rfl]
      have hall := (HL.out).few
      by_cases hax : a = x
      · subst hax
        have HC := Lib.hid (hc.trans (hstep.trans (show _ = true by simp)))
        clear hc hstep
        go_wp2_with fail
        go_ret
        exact ⟨by rw [HC.out]; rfl, hB⟩
      · have hne : ¬ S.hd a = S.hd x := fun e => hax (hdl_inj (by have := at_lt HAA.out; omega) (by have := at_lt hx; omega) e)
        have hne2 : (S.hd a == S.hd x) = false := by simpa using hne
        have HC := Lib.hid (hc.trans (hstep.trans (show _ = contB S a (dO d o2) o2 by
          have : (a == x) = false := by simpa using hax
          rw [this, Bool.false_or])))
        clear hc hstep
        go_wp2_with fail
        refine (HA2.out _ (Below.refl _ _)).mono ?_
        rintro e w6 ⟨rfl, hb6⟩
        have hB6 := hB.trans (hb6.mono hB.size)
        go_wp2_with fail
        refine ⟨⟨o2, hu2, rfl, rfl, HC.out, hB6⟩, ?_⟩
        simp only [hnum]
        rw [hix2, hixx]
        show dO d o2 < d x
        omega
def hgt (K : Nat → List Nat) : Nat → Nat → Nat
  | 0, _ => 1
  | f + 1, i => (K i).foldl (fun m k => max m (hgt K f k)) 0 + 1
theorem foldl_max_le {α : Type} (f : α → Nat) (B : Nat) : ∀ (l : List α) (m : Nat), m ≤ B → (∀ k ∈ l, f k ≤ B) → l.foldl (fun m k => max m (f k)) m ≤ B
  | [], m, h, _ => h
  | k :: l, m, h, hl => foldl_max_le f B l (max m (f k)) (by have := hl k (by simp); omega) (fun x hx => hl x (by simp [hx]))
theorem hgt_le (K : Nat → List Nat) : ∀ f i, hgt K f i ≤ f + 1
  | 0, _ => Nat.le_refl _
  | f + 1, i => by
    unfold hgt
    have := foldl_max_le (hgt K f) (f + 1) (K i) 0 (by omega) (fun k _ => hgt_le K f k)
    omega
theorem own_int {w : World} {B n : Nat} {v : Value} {l : List Int} (h : w.ownsRow B 3 1 v n (hC l)) {j : Nat} {x : Int} (hx : l[j]? = some x) : ∃ gv cap, v = .slice (some ⟨gv, 0, none⟩) n cap ∧ w.cell? ⟨gv, j, none⟩ = some (.int .i64 x) := by
  rcases h.2 with ⟨rfl, e⟩ | ⟨gv, cap, cur, rfl, _⟩
  · have hl := h.1
    have := (List.getElem?_eq_some_iff.1 hx).1
    simp [hC] at hl
    omega
  · refine ⟨gv, cap, rfl, ?_⟩
    have := h.cells (g := gv) rfl j (.int .i64 x) (by unfold hC; rw [List.getElem?_map, hx]; rfl)
    rwa [show (⟨gv, 0, none⟩ : Addr).add j = ⟨gv, j, none⟩ by unfold Addr.add; split <;> simp_all] at this
theorem own_shapeB {w : World} {B e sz n : Nat} {v : Value} {xs : List Value} (h : w.ownsRow B e sz v n xs) : ∃ a cap, v = .slice a n cap := by
  rcases h.2 with ⟨rfl, e⟩ | ⟨g, cap, cur, rfl, _⟩
  · exact ⟨none, 0, by rw [e]⟩
  · exact ⟨_, _, rfl⟩
def HgR (w : World) (K : Nat → List Nat) (f : Nat) (l : List Nat) (v : Value) (S : Tr) (mv jv : Value) (wr : World) : Prop :=
  ∃ j : Nat, j ≤ l.length ∧ jv = .int .i64 (j : Int) ∧ mv = .int .i64 (((l.take j).foldl (fun m k => max m (hgt K f k)) 0 : Nat) : Int) ∧ wr.ownsRow w.heap.size 3 1 v l.length (hC (l.map S.hd)) ∧ Below w.heap.size w wr
set_option maxRecDepth 100000 in
set_option maxHeartbeats 4000000 in
theorem height_any {B R g cap : Nat} {S : Tr} {fv : Value} {K : Nat → List Nat} {d : Nat → Nat} (hL : Lk S K d) : ∀ (f i : Nat) (n : Nd), S.at i = some n → 128 - d i = f → ∀ w, TAt B R S (.slice (some ⟨g, 0, none⟩) S.slots.length cap) fv w →
    Calls Tryz.prog 114 #[.pointer (some ⟨R, 0, none⟩), .int .i64 (S.hd i)] w fun e w' => e = .returned (.int .i64 (hgt K f i : Int)) ∧ Below w.heap.size w w' := by
  intro f
  induction f with
  | zero =>
    intro i n hi hf w h
    have hK : K i = [] := by
      cases e : K i with
      | nil => rfl
      | cons k t =>
        have h1 := hL.dep i k (by rw [e]; simp)
        have h2 := hL.low k
        omega
    have HA := Lib.hid (kids_any h hL i n hi)
    rw [hK] at HA
    clear h
    go_enter Tryz.func114, Tryz.ntmps114
    go_wp2_with fail
    refine HA.out.mono ?_
    rintro e w2 ⟨v, rfl, hown, hb2⟩
    obtain ⟨a, cp, rfl⟩ := own_shapeB hown
    simp only [List.length_nil]
    go_wp2_with fail
    go_loopw [5, 12] (fun mv jv wr => mv = .int .i64 0 ∧ jv = .int .i64 0 ∧ Below w.heap.size w wr) (fun _ _ _ => 0)
    case atStart => exact ⟨rfl, rfl, hb2⟩
    case round =>
      obtain ⟨rfl, rfl, hB⟩ := hrel
      go_wp2_with fail
      go_ret
      exact ⟨rfl, hB⟩
  | succ f ih =>
    intro i n hi hf w h
    have HA := Lib.hid (kids_any h hL i n hi)
    have HT := Lib.hid h
    have hkl := kids_len hL i
    clear h
    have HIH := Lib.hid ih
    clear ih
    go_enter Tryz.func114, Tryz.ntmps114
    go_wp2_with fail
    refine HA.out.mono ?_
    rintro e w2 ⟨v, rfl, hown, hb2⟩
    obtain ⟨a, cp, rfl⟩ := own_shapeB hown
    go_wp2_with fail
    go_loopw [5, 12] (fun mv jv wr => HgR w K f (K i) (.slice a (K i).length cp) S mv jv wr) (fun _ jv _ => (K i).length - (intOf jv).toNat)
    case atStart => exact ⟨0, by omega, rfl, rfl, hown, hb2⟩
    case round =>
      obtain ⟨j, hj, rfl, rfl, ho, hB⟩ := hrel
      by_cases hlt : j < (K i).length
      · obtain ⟨k, hk⟩ : ∃ k, (K i)[j]? = some k := ⟨_, List.getElem?_eq_getElem hlt⟩
        obtain ⟨nk, hnk⟩ := hL.some hk
        obtain ⟨gv, cp2, hv, hc⟩ := own_int ho (x := S.hd k) (by rw [List.getElem?_map, hk]; rfl)
        have hdk := hL.dep i k (List.mem_of_getElem? hk)
        have hlow := hL.low k
        have HH := Lib.hid (HIH.out k nk hnk (by omega) wr (HT.out.below hB))
        have hmx := foldl_max_le (hgt K f) (f + 1) ((K i).take j) 0 (by omega) (fun k _ => hgt_le K f k)
        have hhk := hgt_le K f k
        have HM := Lib.hid (show ((K i).take (j + 1)).foldl (fun m k => max m (hgt K f k)) 0 = max (((K i).take j).foldl (fun m k => max m (hgt K f k)) 0) (hgt K f k) by
          rw [List.take_add_one, hk]; simp)
        have HO := Lib.hid ho
        clear ho
        generalize ((K i).take j).foldl (fun m k => max m (hgt K f k)) 0 = M at *
        generalize hgt K f k = H at *
        generalize S.hd k = hk1 at *
        cases hv
        go_wp2_with fail
        refine HH.out.mono ?_
        rintro e w6 ⟨rfl, hb6⟩
        have hB6 := hB.trans (hb6.mono hB.size)
        have HO6 := Lib.hid (own_keepB HO.out hb6)
        go_wp2_with fail
        refine ⟨⟨j + 1, by omega, by go_num, ?_, HO6.out, hB6⟩, by simp [intOf]; omega⟩
        rw [HM.out]
        congr 1
        split <;> omega
      · obtain rfl : j = (K i).length := by omega
        rw [List.take_length]
        have hmx := foldl_max_le (hgt K f) (f + 1) (K i) 0 (by omega) (fun k _ => hgt_le K f k)
        have HM := Lib.hid (show hgt K (f + 1) i = (K i).foldl (fun m k => max m (hgt K f k)) 0 + 1 from rfl)
        generalize (K i).foldl (fun m k => max m (hgt K f k)) 0 = M at *
        clear ho
        go_wp2_with fail
        go_ret
        exact ⟨by rw [HM.out]; simp, hB⟩
end Go.Proofs.YtacdbnhnhdlmpaaGreatDoor.W
end
