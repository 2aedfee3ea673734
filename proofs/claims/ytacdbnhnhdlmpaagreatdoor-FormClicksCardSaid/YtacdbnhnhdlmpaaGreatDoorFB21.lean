/- Texts joined: Atr FmP Knd Spn Spa Spk Own. -/
import Derived.Test.YtacdbnhnhdlmpaaGreatDoorFB20
import Derived.Test.YtacdbnhnhdlmpaaGreatDoorFB13
import Derived.Test.YtacdbnhnhdlmpaaGreatDoorFB18
import Derived.LoopTactic
set_option maxRecDepth 100000
set_option maxHeartbeats 40000000
set_option linter.unusedVariables false
set_option linter.unusedSimpArgs false
section
namespace Go.Proofs.YtacdbnhnhdlmpaaGreatDoor.W
open Go.RowKit
theorem attr_kind {B R g cap : Nat} {S : Tr} {fv : Value} {w : World} {K d} (h : TAt B R S (.slice (some ⟨g, 0, none⟩) S.slots.length cap) fv w) (hL : Lk S K d) (i : Nat) (n : Nd) (hi : S.at i = some n) (hk : n.kind ≠ 2) (x : ByteArray) :
    Calls Tryz.prog 44 #[.pointer (some ⟨R, 0, none⟩), .int .i64 (S.hd i), .string x] w fun e w' => e = .returned (.tuple #[.string ⟨#[]⟩, .bool false]) ∧ Below w.heap.size w w' := by
  have HA := Lib.hid (element_no h hL i n hi hk)
  clear h hi
  go_enter Tryz.func44, Tryz.ntmps44
  go_wp2_with fail
  refine HA.out.mono ?_
  rintro e w2 ⟨rfl, hb⟩
  go_wp2_with fail
  go_ret2
  exact ⟨rfl, hb⟩
set_option maxRecDepth 100000 in
set_option maxHeartbeats 2000000 in
theorem attr_el {B R g cap : Nat} {S : Tr} {fv : Value} {w : World} {K d} (h : TAt B R S (.slice (some ⟨g, 0, none⟩) S.slots.length cap) fv w) (hL : Lk S K d) (i : Nat) (n : Nd) (hi : S.at i = some n) (hk : n.kind = 2) (hl : n.attrs.length ≤ 1000) (x : List UInt8) :
    Calls Tryz.prog 44 #[.pointer (some ⟨R, 0, none⟩), .int .i64 (S.hd i), .string ⟨x.toArray⟩] w fun e w' => Below w.heap.size w w' ∧
      ((nmOf n.attrs x = -1 ∧ e = .returned (.tuple #[.string ⟨#[]⟩, .bool false])) ∨ ∃ (k : Nat) (y : Atr), nmOf n.attrs x = (k : Int) ∧ n.attrs[k]? = some y ∧ e = .returned (.tuple #[.string ⟨y.2.toArray⟩, .bool true])) := by
  have HE := Lib.hid (element_el h hL i n hi hk)
  have HN := Lib.hid (fun wx (hb : Below w.heap.size w wx) => named_any (h.below hb) i n hi x hl)
  have hAt := h.attrs i n (at_slot hi)
  obtain ⟨nk, nn, nav, nal, nda, np, nf, nl, npv, nx⟩ := n
  obtain ⟨av, acap, hav, hcs⟩ := hAt
  simp only [] at hav hcs hl
  subst hav
  have HS := Lib.hid (fun wx (hb : Below w.heap.size w wx) => (show wx.cell? ⟨g, i * 10 + 3, none⟩ = some (.slice av nal.length acap) from slot_cell (h.below hb) (at_slot hi) 3 (by omega)))
  have HCs := Lib.hid hcs
  clear h hi hcs
  simp only [strV] at HN
  go_enter Tryz.func44, Tryz.ntmps44
  go_wp2_with fail
  refine HE.out.mono ?_
  rintro e w2 ⟨rfl, hb2⟩
  go_wp2_with fail
  refine (HN.out w2 hb2).mono ?_
  rintro e w3 ⟨rfl, hb3⟩
  have HB3 := Lib.hid (bthen hb2 hb3)
  clear hb2 hb3
  by_cases hneg : nmOf nal x = -1
  · have HNg := Lib.hid hneg
    rw [hneg]
    clear hneg
    go_wp2_with fail
    go_ret2
    exact ⟨HB3.out, .inl ⟨HNg.out, rfl⟩⟩
  · obtain ⟨k, y, hk1, hk2⟩ : ∃ (k : Nat) (y : Atr), nmOf nal x = (k : Int) ∧ nal[k]? = some y := by
      unfold nmOf at hneg ⊢
      cases e : nal.findIdx? (fun y => y.1 == x) with
      | none => rw [e] at hneg; exact absurd rfl hneg
      | some k =>
        obtain ⟨hlt, _⟩ := List.findIdx?_eq_some_iff_getElem.1 e
        exact ⟨k, _, rfl, List.getElem?_eq_getElem hlt⟩
    have HK1 := Lib.hid hk1
    rw [hk1]
    clear hk1
    rcases HCs.out with rfl | ⟨vg, cur, rfl, _, hg, hc⟩
    · cases hk2
    have hgl := lt_of_block hg
    have c3 := HS.out w3 HB3.out
    have cv : w3.cell? ⟨vg, k * 2 + 1, none⟩ = some (.string ⟨y.2.toArray⟩) := by
      rw [HB3.out.cell (p := ⟨vg, k * 2 + 1, none⟩) hgl, show k * 2 + 1 = 2 * k + 1 by omega, Lib.cell_of_heap hg]
      exact (hc k y hk2).2
    have hkl := (List.getElem?_eq_some_iff.1 hk2).1
    have hki : (k : Int) < (nal.length : Int) := by omega
    have HK := Lib.hid hk2
    have hg3 := Nat.lt_of_lt_of_le hgl HB3.out.size
    clear hg hc hk2 hneg
    unfold na
    go_wp2_with fail
    go_ret2
    exact ⟨HB3.out, .inr ⟨k, y, HK1.out, HK.out, rfl⟩⟩
def Vd (l : List UInt8) : Prop := rfix l = l
theorem pts_flat (l : List UInt8) : (ptsL l).flatten = l := ptsL_join l.length l (Nat.le_refl _)
def nL (l : List UInt8) : Nat := (ptsL l).length
theorem nL_le (l : List UInt8) : nL l ≤ l.length := ptsL_len l.length l (Nat.le_refl _)
def cutL (l : List UInt8) (a b : Nat) : List UInt8 := joinL (ptsL l) a b
theorem cut_none {l : List UInt8} {a b : Nat} (h : b ≤ a ∨ nL l ≤ a) : cutL l a b = [] := joinL_stop _ _ _ h
theorem cut_len (l : List UInt8) (a b : Nat) : (cutL l a b).length ≤ l.length := by
  have := joinL_len (ptsL l) a b
  rw [pts_flat] at this
  exact this
theorem cut_three (l : List UInt8) {a b : Nat} (hab : a ≤ b) (hb : b ≤ nL l) : l = cutL l 0 a ++ (cutL l a b ++ cutL l b (nL l)) := by
  have e : ptsL l = (ptsL l).take a ++ (((ptsL l).take b).drop a ++ (ptsL l).drop b) := by
    rw [← List.append_assoc]
    have h1 : (ptsL l).take a ++ ((ptsL l).take b).drop a = (ptsL l).take b := by
      have := List.take_append_drop a ((ptsL l).take b)
      rwa [List.take_take, Nat.min_eq_left hab] at this
    rw [h1, List.take_append_drop]
  have := congrArg List.flatten e
  rw [pts_flat, List.flatten_append, List.flatten_append] at this
  unfold cutL joinL nL
  rw [List.take_length]
  simpa using this
theorem slice_cut {l : List UInt8} (h : Vd l) {a b : Nat} (hab : a ≤ b) (hb : b ≤ nL l) : sliceF l (a : Int) (b : Int) = cutL l a b := sliceF_join l h a b hab hb
/-! ### the program's field -/
structure FE where
  at_ : Nat
  old : List UInt8
  new : List UInt8
  st : Nat
  en : Nat
structure FT where
  val : List UInt8
  st : Nat
  en : Nat
  undo : List FE
  redo : List FE
def FT.of (v : List UInt8) : FT := ⟨v, nL v, nL v, [], []⟩
def keepE {α : Type} (l : List α) : List α := l.drop (l.length - 100)
def FT.rep (F : FT) (a b : Nat) (v : List UInt8) (s e : Nat) : FT :=
  if cutL F.val a b = [] ∧ v = [] then F
  else ⟨cutL F.val 0 a ++ (v ++ cutL F.val b (nL F.val)), a + nL v, a + nL v, keepE (F.undo ++ [⟨a, cutL F.val a b, v, s, e⟩]), []⟩
def FT.ins (F : FT) (v : List UInt8) : FT := F.rep F.st F.en v F.st F.en
def attL (l : List Atr) (x : List UInt8) : Option (List UInt8) := (l.find? fun y => y.1 == x).map (·.2)
def attV (n : Nd) (x : List UInt8) : Option (List UInt8) := if n.kind = 2 then attL n.attrs x else none
theorem nmOf_att {l : List Atr} {x : List UInt8} : (nmOf l x = -1 ∧ attL l x = none) ∨ ∃ (k : Nat) (y : Atr), nmOf l x = (k : Int) ∧ l[k]? = some y ∧ attL l x = some y.2 := by
  unfold nmOf attL
  cases e : l.findIdx? (fun y => y.1 == x) with
  | none =>
    refine .inl ⟨rfl, ?_⟩
    rw [List.findIdx?_eq_none_iff] at e
    rw [List.find?_eq_none.2 (fun y hy => by have := e y hy; simpa using this)]
    rfl
  | some k =>
    obtain ⟨hlt, h1, h2⟩ := List.findIdx?_eq_some_iff_getElem.1 e
    refine .inr ⟨k, l[k], rfl, List.getElem?_eq_getElem hlt, ?_⟩
    have : l.find? (fun y => y.1 == x) = some l[k] := by
      rw [List.find?_eq_some_iff_getElem]
      exact ⟨h1, k, hlt, rfl, fun j hj => by have := h2 j hj; simpa using this⟩
    rw [this]; rfl
theorem attr_at {B R : Nat} {S : Tr} {sv fv : Value} {w : World} {K d} (h : TAt B R S sv fv w) (hL : Lk S K d) (i : Nat) (n : Nd) (hi : S.at i = some n) (hl : n.attrs.length ≤ 1000) (x : List UInt8) :
    Calls Tryz.prog 44 #[.pointer (some ⟨R, 0, none⟩), .int .i64 (S.hd i), .string ⟨x.toArray⟩] w fun e w' => e = .returned (.tuple #[.string ⟨((attV n x).getD []).toArray⟩, .bool (attV n x).isSome]) ∧ Below w.heap.size w w' := by
  obtain ⟨g, cap, rfl⟩ := slots_some h (by have := at_lt hi; omega)
  by_cases hk : n.kind = 2
  · refine (attr_el h hL i n hi hk hl x).mono ?_
    rintro e w' ⟨hb, hx⟩
    unfold attV
    rw [if_pos hk]
    rcases hx with ⟨h1, rfl⟩ | ⟨k, y, h1, h2, rfl⟩
    · rcases nmOf_att (l := n.attrs) (x := x) with ⟨_, e⟩ | ⟨k, y, e, _⟩
      · rw [e]; exact ⟨rfl, hb⟩
      · rw [h1] at e; omega
    · rcases nmOf_att (l := n.attrs) (x := x) with ⟨e, _⟩ | ⟨k', y', e, e2, e3⟩
      · rw [h1] at e; omega
      · have : k' = k := by rw [h1] at e; omega
        subst this
        rw [h2] at e2; cases e2
        rw [e3]; exact ⟨rfl, hb⟩
  · refine (attr_kind h hL i n hi hk ⟨x.toArray⟩).mono ?_
    rintro e w' ⟨rfl, hb⟩
    unfold attV
    rw [if_neg hk]
    exact ⟨rfl, hb⟩
def sInput : List UInt8 := [105, 110, 112, 117, 116]
def sArea : List UInt8 := [116, 101, 120, 116, 97, 114, 101, 97]
def sButton : List UInt8 := [98, 117, 116, 116, 111, 110]
def sType : List UInt8 := [116, 121, 112, 101]
def sCheck : List UInt8 := [99, 104, 101, 99, 107, 98, 111, 120]
def sRadio : List UInt8 := [114, 97, 100, 105, 111]
def sHidden : List UInt8 := [104, 105, 100, 100, 101, 110]
def sSubmit : List UInt8 := [115, 117, 98, 109, 105, 116]
def sValue : List UInt8 := [118, 97, 108, 117, 101]
def kindI (t : List UInt8) : Nat := if t = sCheck then 3 else if t = sRadio then 4 else if t = sHidden then 5 else if t = sSubmit then 6 else if t = sButton then 7 else 1
def kindF (nm : List UInt8) (t : Option (List UInt8)) : Nat :=
  if nm = sInput then kindI (t.getD []) else if nm = sArea then 2 else if nm = sButton then (if t.isSome = false ∨ t.getD [] = sSubmit then 6 else 7) else 0
def kindN (n : Nd) : Nat := kindF n.name (attV n sType)
set_option maxRecDepth 100000 in
set_option maxHeartbeats 4000000 in
theorem kind_any {B R : Nat} {S : Tr} {sv fv : Value} {w : World} {K d} (h : TAt B R S sv fv w) (hL : Lk S K d) (i : Nat) (n : Nd) (hi : S.at i = some n) (hl : n.attrs.length ≤ 1000) :
    Calls Tryz.prog 31 #[.pointer (some ⟨R, 0, none⟩), .int .i64 (S.hd i)] w fun e w' => e = .returned (.int .i64 (kindN n : Int)) ∧ Below w.heap.size w w' := by
  have HN := Lib.hid (node_some h (S.hd i) (hd_ok hL hi).1 (hd_ix hL hi) (at_slot hi) hl)
  have HA := Lib.hid (fun wx (hb : Below w.heap.size w wx) => attr_at (h.below hb) hL i n hi hl sType)
  unfold kindN
  clear h hi
  generalize attV n sType = t at *
  obtain ⟨nk, nm, nav, nal, nda, np, nf, nl, npv, nx⟩ := n
  simp only at HN ⊢
  clear hl
  go_enter Tryz.func31, Tryz.ntmps31
  go_wp2_with fail
  refine HN.out.mono ?_
  rintro e w1 ⟨v', rfl, ho, hb1⟩
  obtain ⟨va, vc, rfl⟩ := own_shapeB ho
  clear ho
  simp only [ndC, strV]
  have hb2 := hb1.alloc hb1.size (.cells #[.int .i64 nk, .string ⟨nm.toArray⟩, .slice va nal.length vc, .string ⟨nda.toArray⟩, .int .i64 np, .int .i64 nf, .int .i64 nl, .int .i64 npv, .int .i64 nx] 135)
  have kn := Blk.new w1 [.int .i64 nk, .string ⟨nm.toArray⟩, .slice va nal.length vc, .string ⟨nda.toArray⟩, .int .i64 np, .int .i64 nf, .int .i64 nl, .int .i64 npv, .int .i64 nx] 135
  go_wp2_with fail
  refine (HA.out _ hb2).mono ?_
  rintro e w2 ⟨rfl, hb3⟩
  have c1 := (kn.below hb3).cell 1
  simp only [List.getElem?_cons_zero, List.getElem?_cons_succ] at c1
  have HB := Lib.hid (bthen hb2 hb3)
  clear hb1 hb2 hb3 kn HN HA
  cases t with
  | none =>
    simp only [Option.getD_none, Option.isSome_none] at *
    go_wp2_with fail
    all_goals go_ret
    all_goals (
      refine ⟨?_, HB.out⟩
      unfold kindF kindI sInput sArea sButton sCheck sRadio sHidden sSubmit
      simp_all)
  | some x =>
    simp only [Option.getD_some, Option.isSome_some] at *
    go_wp2_with fail
    all_goals go_ret
    all_goals (
      refine ⟨?_, HB.out⟩
      unfold kindF kindI sInput sArea sButton sCheck sRadio sHidden sSubmit
      simp_all)
theorem bound_any (b : Int) (w : World) :
    Calls Tryz.prog 150 #[.int .i64 b] w fun e w' => e = .returned (.int .i64 (bnd b)) ∧ w' = w := by
  go_enter Tryz.func150, Tryz.ntmps150
  go_wp2
  all_goals
    go_ret
    refine ⟨ret_int ?_, rfl⟩
    unfold bnd
    repeat' split at *
    all_goals omega
theorem rindex_any (b s h : Int) (w : World) (h1 : -9223372036854775808 ≤ h) (h2 : h ≤ 9223372036854775807) :
    Calls Tryz.prog 123 #[.agg #[.int .i64 b, .int .i64 s], .int .i64 h] w fun e w' => e = .returned (.int .i64 (idx b s h)) ∧ Below w.heap.size w w' := by
  have b1 := bnd_lo b
  have b2 := bnd_hi b
  have s1 := bnd_lo s
  have s2 := bnd_hi s
  go_enter Tryz.func123, Tryz.ntmps123
  go_wp2_with fail
  go_quiet ((go_at_call 150; exact Calls.quiet_of_same (bound_any _ _)))
  go_wp2_with fail
  all_goals
    go_ret
    refine ⟨ret_int ?_, by repeat (first | exact Below.refl _ _ | refine Below.drewN ?_ _ | refine Below.alloc ?_ (Nat.le_refl _) _)⟩
    first
      | exact (idx_no (.inl (by omega))).symm
      | exact (idx_no (.inr (.inl (by assumption)))).symm
      | exact (idx_no (.inr (.inr (by omega)))).symm
      | exact (idx_yes (by omega) (by assumption) (by omega)).symm
set_option maxRecDepth 100000 in
set_option maxHeartbeats 4000000 in
theorem snode_some {B R g cap : Nat} {S : Tr} {fv : Value} {w : World} (h : TAt B R S (.slice (some ⟨g, 0, none⟩) S.slots.length cap) fv w) (hd : Int) (hh : HOk hd) {k : Nat} (hk : S.ix hd = some k) {n : Nd} (hn : S.slots[k]? = some (some n)) :
    Calls Tryz.prog 74 #[.pointer (some ⟨R, 0, none⟩), .int .i64 hd] w fun e w' => e = .returned (.tuple #[.agg (ndC n).toArray, .bool true]) ∧ Below w.heap.size w w' := by
  obtain ⟨nk, nn, nav, nal, nda, np, nf, nl, npv, nx⟩ := n
  obtain ⟨av, acap, hav, _⟩ := h.attrs k _ hn
  simp only [] at hav
  subst hav
  obtain ⟨L1, L2, _⟩ := ix_some hk
  have HI := Lib.hid (fun wx => rindex_any S.b S.s hd wx hh.1 hh.2)
  rw [L1] at HI
  have HT := Lib.hid h
  have hgl := (h.slots.lt g rfl).2
  have HN := Lib.hid hn
  have c0 := h.blk.cell 0
  have c1 := h.blk.cell 1
  have c2 := h.blk.cell 2
  simp only [List.getElem?_cons_succ, List.getElem?_cons_zero] at c0 c1 c2
  have hRl := h.blk.lt
  have hfew := h.few
  clear h hk hn L1
  have hb1 := (Below.refl w.heap.size w).alloc (Nat.le_refl _) (.cells (ndC zeroN).toArray 135)
  have k1 := Blk.new w (ndC zeroN) 135
  go_enter Tryz.func74, Tryz.ntmps74
  go_wp2_with fail
  refine (HI.out _).mono ?_
  rintro e w2 ⟨rfl, hb2⟩
  have k2 := Blk.below k1 hb2
  have HB2 := Lib.hid (bthen hb1 hb2)
  have hT2 := HT.out.below HB2.out
  have d2 := hT2.blk.cell 2
  have s0 := slot_cell hT2 HN.out 0 (by omega)
  have s1 := slot_cell hT2 HN.out 1 (by omega)
  have s2 := slot_cell hT2 HN.out 2 (by omega)
  have s3 := slot_cell hT2 HN.out 3 (by omega)
  have s4 := slot_cell hT2 HN.out 4 (by omega)
  have s5 := slot_cell hT2 HN.out 5 (by omega)
  have s6 := slot_cell hT2 HN.out 6 (by omega)
  have s7 := slot_cell hT2 HN.out 7 (by omega)
  have s8 := slot_cell hT2 HN.out 8 (by omega)
  have s9 := slot_cell hT2 HN.out 9 (by omega)
  simp only [slotC, ndC, strV, List.getElem?_cons_succ, List.getElem?_cons_zero, Nat.add_zero] at d2 s0 s1 s2 s3 s4 s5 s6 s7 s8 s9
  simp only [ndC, zeroN, strV] at k2 ⊢
  have c0 := k2.cell 0
  have c1 := k2.cell 1
  have c2 := k2.cell 2
  have c3 := k2.cell 3
  have c4 := k2.cell 4
  have c5 := k2.cell 5
  have c6 := k2.cell 6
  have c7 := k2.cell 7
  have c8 := k2.cell 8
  have cf := k2.free
  simp only [List.getElem?_cons_succ, List.getElem?_cons_zero] at c0 c1 c2 c3 c4 c5 c6 c7 c8
  have hlt := k2.lt
  have hne : g ≠ w.heap.size := by omega
  have hg2 := (hT2.slots.lt g rfl).2
  have g2 : decide (S.slots.length ≤ k) = false := by simp; omega
  clear k1 hb1 hb2 HI hT2
  go_wp2_with fail
  have k9 := Blk.over ⟨nk, nn, .slice av nal.length acap, nal, nda, np, nf, nl, npv, nx⟩ k2 rfl
  have b9 := Below.over ⟨nk, nn, .slice av nal.length acap, nal, nda, np, nf, nl, npv, nx⟩ HB2.out (Nat.le_refl w.heap.size)
  exact bodyPost_ret (res_nd (by rfl) (by rfl) k9) rfl ⟨rfl, b9⟩
theorem attL_at {l : List Atr} {x : List UInt8} {t : Nat} {y : Atr} (h : l[t]? = some y) (hx : y.1 = x) (hb : ∀ j z, j < t → l[j]? = some z → z.1 ≠ x) : attL l x = some y.2 := by
  unfold attL
  obtain ⟨hlt, rfl⟩ := List.getElem?_eq_some_iff.1 h
  rw [List.find?_eq_some_iff_getElem.2 ⟨by simpa using hx, t, hlt, rfl, fun j hj => by have := hb j (l[j]'(by omega)) hj (List.getElem?_eq_getElem (by omega)); simpa using this⟩]
  rfl
theorem attL_no {l : List Atr} {x : List UInt8} (hb : ∀ j z, j < l.length → l[j]? = some z → z.1 ≠ x) : attL l x = none := by
  unfold attL
  rw [List.find?_eq_none.2 (fun y hy => by
    obtain ⟨j, hj⟩ := List.mem_iff_getElem?.1 hy
    have := hb j y (List.getElem?_eq_some_iff.1 hj).1 hj
    simpa using this)]
  rfl
theorem at_get {B : Nat} {w : World} {a : Option Addr} {n c : Nat} {l : List Atr} (h : AttrAt B w (.slice a n c) l) {i : Nat} {p : Atr} (hp : l[i]? = some p) : ∃ g, a = some ⟨g, 0, none⟩ ∧ n = l.length ∧ g < w.heap.size ∧ w.cell? ⟨g, i * 2, none⟩ = some (.string ⟨p.1.toArray⟩) ∧ w.cell? ⟨g, i * 2 + 1, none⟩ = some (.string ⟨p.2.toArray⟩) := by
  obtain ⟨a', c', e, h'⟩ := h
  cases e
  rcases h' with rfl | ⟨g, cur, rfl, _, hg, hc⟩
  · cases hp
  · obtain ⟨h1, h2⟩ := hc i p hp
    refine ⟨g, rfl, rfl, lt_of_block hg, ?_, ?_⟩
    · rw [Lib.cell_of_heap hg, show i * 2 = 2 * i by omega]; exact h1
    · rw [Lib.cell_of_heap hg, show i * 2 + 1 = 2 * i + 1 by omega]; exact h2
set_option maxRecDepth 100000 in
set_option maxHeartbeats 4000000 in
theorem sattr_any {B R : Nat} {S : Tr} {sv fv : Value} {w : World} {K d} (h : TAt B R S sv fv w) (hL : Lk S K d) (i : Nat) (n : Nd) (hi : S.at i = some n) (hl : n.attrs.length ≤ 1000) (x : List UInt8) :
    Calls Tryz.prog 75 #[.pointer (some ⟨R, 0, none⟩), .int .i64 (S.hd i), .string ⟨x.toArray⟩] w fun e w' => e = .returned (.tuple #[.string ⟨((attL n.attrs x).getD []).toArray⟩, .bool (attL n.attrs x).isSome]) ∧ Below w.heap.size w w' := by
  obtain ⟨g, cap, rfl⟩ := slots_some h (by have := at_lt hi; omega)
  have HN := Lib.hid (snode_some h (S.hd i) (hd_ok hL hi).1 (hd_ix hL hi) (at_slot hi))
  have hAt := h.attrs i n (at_slot hi)
  obtain ⟨nk, nm, nav, nal, nda, np, nf, nl, npv, nx⟩ := n
  simp only at HN hAt hl ⊢
  obtain ⟨va, vc, rfl, _⟩ := id hAt
  have HAt := Lib.hid hAt
  clear h hi hAt
  go_enter Tryz.func75, Tryz.ntmps75
  go_wp2_with fail
  refine HN.out.mono ?_
  rintro e w1 ⟨rfl, hb1⟩
  simp only [ndC, strV]
  have hb2 := hb1.alloc hb1.size (.cells #[.int .i64 nk, .string ⟨nm.toArray⟩, .slice va nal.length vc, .string ⟨nda.toArray⟩, .int .i64 np, .int .i64 nf, .int .i64 nl, .int .i64 npv, .int .i64 nx] 135)
  have c2 := (Blk.new w1 [.int .i64 nk, .string ⟨nm.toArray⟩, .slice va nal.length vc, .string ⟨nda.toArray⟩, .int .i64 np, .int .i64 nf, .int .i64 nl, .int .i64 npv, .int .i64 nx] 135).cell 2
  simp only [List.getElem?_cons_zero, List.getElem?_cons_succ] at c2
  have HB := Lib.hid hb2
  clear hb1 HN
  go_wp2_with fail
  generalize hw2 : w1.alloc (.cells #[.int .i64 nk, .string ⟨nm.toArray⟩, .slice va nal.length vc, .string ⟨nda.toArray⟩, .int .i64 np, .int .i64 nf, .int .i64 nl, .int .i64 npv, .int .i64 nx] 135) = w2 at *
  clear hw2 hb2
  go_loop [20] (fun iv => ∃ t : Nat, t ≤ nal.length ∧ iv = .int .i64 (t : Int) ∧ ∀ j z, j < t → nal[j]? = some z → z.1 ≠ x) (fun iv => nal.length - (intOf iv).toNat)
  case atStart => exact ⟨0, Nat.zero_le _, rfl, fun j z hj => absurd hj (Nat.not_lt_zero j)⟩
  case round =>
    obtain ⟨t, htn, rfl, hS⟩ := hrel
    have HS := Lib.hid hS
    clear hS
    by_cases htl : t < nal.length
    · obtain ⟨y, hy⟩ : ∃ y, nal[t]? = some y := ⟨_, List.getElem?_eq_getElem htl⟩
      obtain ⟨vg, rfl, _, hgl, ca, cb⟩ := at_get HAt.out hy
      have ca2 := cell_keep HB.out ca
      have cb2 := cell_keep HB.out cb
      have HY := Lib.hid hy
      clear hy ca cb
      obtain ⟨yn, yv⟩ := y
      simp only at ca2 cb2
      by_cases hx : yn = x
      · have HR := Lib.hid (attL_at HY.out hx HS.out)
        subst hx
        go_wp2_with fail
        go_ret2
        rw [HR.out]
        exact ⟨rfl, HB.out⟩
      · have e1 : (yn == x) = false := by simpa using hx
        have HX := Lib.hid hx
        clear hx
        go_wp2_with fail
        refine ⟨⟨t + 1, by omega, by go_num, fun j z hj hz => ?_⟩, by simp [intOf]; omega⟩
        by_cases e : j = t
        · subst e
          rw [HY.out] at hz; cases hz
          exact HX.out
        · exact HS.out j z (by omega) hz
    · obtain rfl : t = nal.length := by omega
      have HR := Lib.hid (attL_no HS.out)
      go_wp2_with fail
      go_ret2
      rw [HR.out]
      exact ⟨rfl, HB.out⟩
theorem beqT {a b : List UInt8} (h : a = b) : (a == b) = true := by simpa using h
theorem beqF {a b : List UInt8} (h : a ≠ b) : (a == b) = false := by simpa using h
def tyL : List (List UInt8) := [sCheck, sRadio, sHidden, sSubmit, sButton]
theorem tyL_at {t : Nat} {x : List UInt8} (h : tyL[t]? = some x) : kindI x = 3 + t := by
  have ht : t < 5 := (List.getElem?_eq_some_iff.1 h).1
  rcases (show t = 0 ∨ t = 1 ∨ t = 2 ∨ t = 3 ∨ t = 4 by omega) with rfl | rfl | rfl | rfl | rfl <;> (cases h; rfl)
theorem tyL_no {x : List UInt8} (h : ∀ j y, j < 5 → tyL[j]? = some y → x ≠ y) : kindI x = 1 := by
  have h0 := h 0 _ (by omega) rfl
  have h1 := h 1 _ (by omega) rfl
  have h2 := h 2 _ (by omega) rfl
  have h3 := h 3 _ (by omega) rfl
  have h4 := h 4 _ (by omega) rfl
  unfold kindI
  rw [if_neg h0, if_neg h1, if_neg h2, if_neg h3, if_neg h4]
set_option maxRecDepth 100000 in
set_option maxHeartbeats 8000000 in
theorem skind_any {B R : Nat} {S : Tr} {sv fv : Value} {w : World} {K d} (h : TAt B R S sv fv w) (hL : Lk S K d) (i : Nat) (n : Nd) (hi : S.at i = some n) (hl : n.attrs.length ≤ 1000) (hnm : n.kind ≠ 2 → n.name = []) :
    Calls Tryz.prog 28 #[.pointer (some ⟨R, 0, none⟩), .int .i64 (S.hd i)] w fun e w' => e = .returned (.int .i64 (kindN n : Int)) ∧ Below w.heap.size w w' := by
  have HA := Lib.hid (fun wx (hb : Below w.heap.size w wx) => sattr_any (h.below hb) hL i n hi hl sType)
  obtain ⟨g, cap, rfl⟩ := slots_some h (by have := at_lt hi; omega)
  have HN := Lib.hid (snode_some h (S.hd i) (hd_ok hL hi).1 (hd_ix hL hi) (at_slot hi))
  have hAt := h.attrs i n (at_slot hi)
  unfold kindN attV
  obtain ⟨nk, nm, nav, nal, nda, np, nf, nl, npv, nx⟩ := n
  simp only at HN HA hAt hl hnm ⊢
  obtain ⟨va, vc, rfl, _⟩ := hAt
  generalize attL nal sType = t at *
  obtain ⟨kk, hkk⟩ : ∃ kk, kindF nm (if nk = 2 then t else none) = kk := ⟨_, rfl⟩
  rw [hkk]
  have HKK := Lib.hid hkk
  clear h hi hkk
  go_enter Tryz.func28, Tryz.ntmps28
  go_wp2_with fail
  refine HN.out.mono ?_
  rintro e w1 ⟨rfl, hb1⟩
  simp only [ndC, strV]
  have hb2 := hb1.alloc hb1.size (.cells #[.int .i64 nk, .string ⟨nm.toArray⟩, .slice va nal.length vc, .string ⟨nda.toArray⟩, .int .i64 np, .int .i64 nf, .int .i64 nl, .int .i64 npv, .int .i64 nx] 135)
  have kn := Blk.new w1 [.int .i64 nk, .string ⟨nm.toArray⟩, .slice va nal.length vc, .string ⟨nda.toArray⟩, .int .i64 np, .int .i64 nf, .int .i64 nl, .int .i64 npv, .int .i64 nx] 135
  clear hb1 HN
  go_wp2_with fail
  refine (HA.out _ hb2).mono ?_
  rintro e w2 ⟨rfl, hb3⟩
  have kn3 := kn.below hb3
  have c0 := kn3.cell 0
  have c1 := kn3.cell 1
  simp only [List.getElem?_cons_zero, List.getElem?_cons_succ] at c0 c1
  have HB := Lib.hid (bthen hb2 hb3)
  generalize w1.heap.size = nb at *
  clear hb2 hb3 kn kn3 HA
  by_cases hk : nk = 2
  · subst hk
    have hkt : kindF nm t = kk := by have := HKK.out; rwa [if_pos rfl] at this
    have e0 : ((2 : Int) != 2) = false := rfl
    by_cases h1 : nm = sArea
    · have e1 : (nm == [116, 101, 120, 116, 97, 114, 101, 97]) = true := beqT h1
      have HR := Lib.hid (show kk = 2 from by rw [← hkt]; subst h1; rfl)
      clear h1 hkt HKK
      go_wp2_with fail
      go_ret
      rw [HR.out]
      exact ⟨rfl, HB.out⟩
    · have e1 : (nm == [116, 101, 120, 116, 97, 114, 101, 97]) = false := beqF h1
      by_cases h2 : nm = sButton
      · have e2 : (nm == [98, 117, 116, 116, 111, 110]) = true := beqT h2
        cases t with
        | none =>
          have HR := Lib.hid (show kk = 6 from by rw [← hkt]; subst h2; rfl)
          simp only [Option.getD_none, Option.isSome_none] at *
          clear h1 h2 hkt HKK
          go_wp2_with fail
          go_ret
          rw [HR.out]
          exact ⟨rfl, HB.out⟩
        | some x =>
          simp only [Option.getD_some, Option.isSome_some] at *
          by_cases h3 : x = sSubmit
          · have e3 : (x == [115, 117, 98, 109, 105, 116]) = true := beqT h3
            have HR := Lib.hid (show kk = 6 from by rw [← hkt]; subst h2; subst h3; rfl)
            clear h1 h2 h3 hkt HKK
            go_wp2_with fail
            go_ret
            rw [HR.out]
            exact ⟨rfl, HB.out⟩
          · have e3 : (x == [115, 117, 98, 109, 105, 116]) = false := beqF h3
            have HR := Lib.hid (show kk = 7 from by rw [← hkt]; subst h2; show (if _ ∨ x = sSubmit then 6 else 7) = 7; simp [h3])
            clear h1 h2 h3 hkt HKK
            go_wp2_with fail
            go_ret
            rw [HR.out]
            exact ⟨rfl, HB.out⟩
      · have e2 : (nm == [98, 117, 116, 116, 111, 110]) = false := beqF h2
        by_cases h3 : nm = sInput
        · have e3 : (nm == [105, 110, 112, 117, 116]) = true := beqT h3
          have HR := Lib.hid (show kk = kindI (t.getD []) from by rw [← hkt]; subst h3; rfl)
          clear h1 h2 h3 hkt HKK
          generalize t.getD [] = x at *
          generalize t.isSome = hs at *
          go_wp2_with fail
          have HT := Lib.hid (fun (t : Nat) (y : List UInt8) (hy : tyL[t]? = some y) => (show (w2.alloc (.cells #[.string ⟨sCheck.toArray⟩, .string ⟨sRadio.toArray⟩, .string ⟨sHidden.toArray⟩, .string ⟨sSubmit.toArray⟩, .string ⟨sButton.toArray⟩] 9)).cell? ⟨w2.heap.size, t, none⟩ = some (.string ⟨y.toArray⟩) from by
            have := (Blk.new w2 (tyL.map strV) 9).cell t
            rw [List.getElem?_map, hy] at this
            exact this))
          have HBN := Lib.hid (HB.out.alloc HB.out.size (.cells #[.string ⟨sCheck.toArray⟩, .string ⟨sRadio.toArray⟩, .string ⟨sHidden.toArray⟩, .string ⟨sSubmit.toArray⟩, .string ⟨sButton.toArray⟩] 9))
          simp only [sCheck, sRadio, sHidden, sSubmit, sButton] at HT HBN
          generalize w2.alloc (.cells #[.string ⟨#[99, 104, 101, 99, 107, 98, 111, 120]⟩, .string ⟨#[114, 97, 100, 105, 111]⟩, .string ⟨#[104, 105, 100, 100, 101, 110]⟩, .string ⟨#[115, 117, 98, 109, 105, 116]⟩, .string ⟨#[98, 117, 116, 116, 111, 110]⟩] 9) = w3 at *
          go_loop [42] (fun iv => ∃ t : Nat, t ≤ 5 ∧ iv = .int .i64 (t : Int) ∧ ∀ j y, j < t → tyL[j]? = some y → x ≠ y) (fun iv => 5 - (intOf iv).toNat)
          case atStart => exact ⟨0, Nat.zero_le _, rfl, fun j z hj => absurd hj (Nat.not_lt_zero j)⟩
          case round =>
            obtain ⟨t, htn, rfl, hS⟩ := hrel
            have HS := Lib.hid hS
            clear hS
            by_cases htl : t < 5
            · obtain ⟨y, hy⟩ : ∃ y, tyL[t]? = some y := ⟨_, List.getElem?_eq_getElem htl⟩
              have ct := HT.out t y hy
              have HY := Lib.hid hy
              clear hy
              by_cases hx : x = y
              · have HR2 := Lib.hid (tyL_at HY.out)
                subst hx
                go_wp2_with fail
                go_ret
                rw [HR.out, HR2.out]
                exact ⟨by simp, HBN.out⟩
              · have e5 : (x == y) = false := by simpa using hx
                have HX := Lib.hid hx
                clear hx
                go_wp2_with fail
                refine ⟨⟨t + 1, by omega, by go_num, fun j z hj hz => ?_⟩, by simp [intOf]; omega⟩
                by_cases e : j = t
                · subst e
                  rw [HY.out] at hz; cases hz
                  exact HX.out
                · exact HS.out j z (by omega) hz
            · obtain rfl : t = 5 := by omega
              have HR2 := Lib.hid (tyL_no HS.out)
              go_wp2_with fail
              go_ret
              rw [HR.out, HR2.out]
              exact ⟨rfl, HBN.out⟩
        · have e3 : (nm == [105, 110, 112, 117, 116]) = false := beqF h3
          have HR := Lib.hid (show kk = 0 from by rw [← hkt]; unfold kindF; rw [if_neg h3, if_neg h1, if_neg h2])
          clear h1 h2 h3 hkt HKK
          go_wp2_with fail
          go_ret
          rw [HR.out]
          exact ⟨rfl, HB.out⟩
  · have e0 : (nk != 2) = true := by simpa using hk
    have HR := Lib.hid (show kk = 0 from by rw [← HKK.out, hnm hk, if_neg hk]; rfl)
    clear hk hnm HKK
    go_wp2_with fail
    go_ret
    rw [HR.out]
    exact ⟨rfl, HB.out⟩
def sForm : List UInt8 := [102, 111, 114, 109]
end Go.Proofs.YtacdbnhnhdlmpaaGreatDoor.W
end
