/- Texts joined: AddF Del DropA SetB MkT. -/
import Derived.Test.YtacdbnhnhdlmpaaGreatDoorFE18
import Derived.Test.YtacdbnhnhdlmpaaGreatDoorFE1
import Derived.RegionTactic
import Derived.BigRegion
import Derived.Test.YtacdbnhnhdlmpaaGreatDoorFE13
import Derived.Deep.RegionLaw
import Derived.Shelf.RegionOpenPlain
import Derived.Test.YtacdbnhnhdlmpaaGreatDoorFE17
import Derived.Test.YtacdbnhnhdlmpaaGreatDoorFE15
import Derived.Test.YtacdbnhnhdlmpaaGreatDoorFE6
import Derived.Deep.CutBlock
set_option maxRecDepth 100000
set_option maxHeartbeats 40000000
set_option linter.unusedVariables false
set_option linter.unusedSimpArgs false
section
namespace Go.Proofs.YtacdbnhnhdlmpaaGreatDoor.W
open Go.RowKit
theorem rowC_cons (x : Option Nd) (l : List (Option Nd)) : rowC (x :: l) = slotC x ++ rowC l := by unfold rowC; rw [List.flatMap_cons]
theorem rowC_put (l : List (Option Nd)) (i : Nat) (x : Option Nd) (hi : i < l.length) : rowC (l.set i x) = setAll (rowC l) (i * 10) (slotC x) := by
  induction l generalizing i with
  | nil => simp at hi
  | cons y l ih =>
    cases i with
    | zero =>
      rw [List.set_cons_zero, rowC_cons, rowC_cons, Nat.zero_mul]
      exact (setAll_head (slotC y) (slotC x) (rowC l) (by rw [slotC_len, slotC_len])).symm
    | succ i =>
      rw [List.set_cons_succ, rowC_cons, rowC_cons, ih i (by simpa using hi)]
      have := setAll_skip (slotC y) (rowC l) (slotC x) (i * 10)
      rw [slotC_len] at this
      rw [show (i + 1) * 10 = 10 + i * 10 by omega]
      exact this.symm
theorem own_baseB {w : World} {B e size n : Nat} {v : Value} {xs : List Value} (h : Own w e size v n xs) (hb : ∀ k, v.ownBlock = some k → B ≤ k) : w.ownsRow B e size v n xs := by
  obtain ⟨h1, h2⟩ := h
  refine ⟨h1, h2.imp id ?_⟩
  rintro ⟨g, cap, cur, rfl, _, rest⟩
  exact ⟨g, cap, cur, rfl, hb g rfl, rest⟩
theorem own_popB {w : World} {B e size g n cap : Nat} {xs : List Value} (h : w.ownsRow B e size (.slice (some ⟨g, 0, none⟩) (n + 1) cap) (n + 1) xs) : w.ownsRow B e size (.slice (some ⟨g, 0, none⟩) n cap) n (xs.take (n * size)) := by
  have hb := (h.lt g rfl).1
  have h0 : Own w e size (.slice (some ⟨g, 0, none⟩) (n + 1) cap) (n + 1) xs := own_low h (Nat.zero_le _)
  have h1 := own_pop h0
  refine own_baseB h1 (fun k hk => by cases hk; exact hb)
theorem live_fill : ∀ (l : List (Option Nd)) (i : Nat) (n : Nd), l[i]? = some none → ((l.set i (some n)).filter Option.isSome).length = (l.filter Option.isSome).length + 1
  | [], i, n, h => by simp at h
  | x :: l, 0, n, h => by
    simp at h; subst h
    simp
  | x :: l, i + 1, n, h => by
    have ih := live_fill l i n (by simpa using h)
    rw [List.set_cons_succ]
    cases x with
    | none => simpa using ih
    | some y => simpa using ih
set_option maxRecDepth 100000 in
set_option maxHeartbeats 4000000 in
theorem add_old {B R g cap i : Nat} {S : Tr} {F : List Nat} {fv : Value} {w : World} (h : TAt B R S (.slice (some ⟨g, 0, none⟩) S.slots.length cap) fv w) (hF : S.free = F ++ [i]) (hi : S.slots[i]? = some none) (n : Nd) (hn : AttrAt B w n.av n.attrs) (hfl : F.length ≤ 1000000) :
    Calls Tryz.prog 106 #[.pointer (some ⟨R, 0, none⟩), .agg #[.int .i64 n.kind, .string ⟨n.name.toArray⟩, n.av, .string ⟨n.data.toArray⟩, .int .i64 n.parent, .int .i64 n.first, .int .i64 n.last, .int .i64 n.prev, .int .i64 n.next]] w fun e w' => ∃ fv', e = .returned (.int .i64 (S.hd i)) ∧
      TAt B R { S with slots := S.slots.set i (some n), free := F } (.slice (some ⟨g, 0, none⟩) S.slots.length cap) fv' w' ∧ Chg (fun k => k = R ∨ k = g) w w' ∧ fv'.ownBlock = fv.ownBlock := by
  have c0 := h.blk.cell 0
  have c1 := h.blk.cell 1
  have c2 := h.blk.cell 2
  have c3 := h.blk.cell 3
  have c4 := h.blk.cell 4
  have hlt := h.blk.lt
  simp only [List.getElem?_cons_succ, List.getElem?_cons_zero] at c0 c1 c2 c3 c4
  have hfr := h.free
  rw [hF, List.length_append, List.length_singleton] at hfr
  obtain ⟨fg, fcap, hfv, hfc⟩ : ∃ fg fcap, fv = .slice (some ⟨fg, 0, none⟩) (F.length + 1) fcap ∧ F.length + 1 ≤ fcap := by
    rcases hfr.2 with ⟨_, e⟩ | ⟨fg, fcap, cur, e, _, _, hc, _⟩
    · omega
    · exact ⟨fg, fcap, e, hc⟩
  subst hfv
  have hil := (List.getElem?_eq_some_iff.1 hi).1
  have hfew := h.few
  have ci : w.cell? ⟨fg, F.length, none⟩ = some (.int .i64 (i : Int)) := by
    have := hfr.cells (g := fg) rfl F.length (.int .i64 (i : Int)) (by simp)
    rw [Go.WideShapes.add_plain, Nat.zero_add] at this
    exact this
  have hlv : S.live ≤ S.slots.length := List.length_filter_le _ _
  obtain ⟨av, acap, hav, _⟩ := id hn
  have hB1 := (Below.refl w.heap.size w).alloc (Nat.le_refl _) (.cells #[.int .i64 n.kind, .string ⟨n.name.toArray⟩, n.av, .string ⟨n.data.toArray⟩, .int .i64 n.parent, .int .i64 n.first, .int .i64 n.last, .int .i64 n.prev, .int .i64 n.next] 135)
  have hbx := Blk.new w [.int .i64 n.kind, .string ⟨n.name.toArray⟩, n.av, .string ⟨n.data.toArray⟩, .int .i64 n.parent, .int .i64 n.first, .int .i64 n.last, .int .i64 n.prev, .int .i64 n.next] 135
  have nb : R ≠ w.heap.size := by omega
  have hgw := (h.slots.lt g rfl).2
  have hfw := (hfr.lt fg rfl).2
  have hRg : R ≠ g := fun e => by
    obtain ⟨cur, hc⟩ := own_ty h.slots (g := g) rfl
    subst e
    exact blk_ne hc h.blk (by decide) rfl
  have hRf : R ≠ fg := fun e => by
    obtain ⟨cur, hc⟩ := own_ty h.free (g := fg) rfl
    subst e
    exact blk_ne hc h.blk (by decide) rfl
  have hgf : g ≠ fg := fun e => by
    obtain ⟨cur, hc⟩ := own_ty h.free (g := fg) rfl
    obtain ⟨cur', hc'⟩ := own_ty h.slots (g := g) rfl
    subst e
    exact blk_ne hc hc' (by decide) rfl
  have HT := Lib.hid h
  have HN := Lib.hid hn
  have HFr := Lib.hid hfr
  have HHi := Lib.hid hi
  have HF := Lib.hid hF
  rw [hav] at hB1 hbx ⊢
  clear hn h hfr hi hF
  go_enter Tryz.func106, Tryz.ntmps106
  go_upto_region 1 with fail
  generalize w.alloc (.cells #[.int .i64 n.kind, .string ⟨n.name.toArray⟩, .slice av n.attrs.length acap, .string ⟨n.data.toArray⟩, .int .i64 n.parent, .int .i64 n.first, .int .i64 n.last, .int .i64 n.prev, .int .i64 n.next] 135) = W at *
  have e0 := cell_keep hB1 c0
  have e1 := cell_keep hB1 c1
  have e2 := cell_keep hB1 c2
  have e3 := cell_keep hB1 c3
  have e4 := cell_keep hB1 c4
  have ei := cell_keep hB1 ci
  have zR := (HT.out.below hB1).blk.free
  clear c0 c1 c2 c3 c4 ci
  go_upto_region 6 with fail
  have hT1 := HT.out.below hB1
  have kR := hT1.blk.set 3 (.slice (some ⟨fg, 0, none⟩) F.length fcap)
  simp only [List.set_cons_succ, List.set_cons_zero] at kR
  have kX : Blk (W.setCell ⟨R, 3, none⟩ (.slice (some ⟨fg, 0, none⟩) F.length fcap)) w.heap.size _ _ := hbx.setOther ⟨R, 3, none⟩ (fun e => nb e.symm) _
  have hch1 : Chg (fun k => k = R ∨ k = g) w (W.setCell ⟨R, 3, none⟩ (.slice (some ⟨fg, 0, none⟩) F.length fcap)) := (Chg.of_below hB1).setCell ⟨R, 3, none⟩ (fun _ => .inl rfl) _
  have hs1 : (W.setCell ⟨R, 3, none⟩ (.slice (some ⟨fg, 0, none⟩) F.length fcap)).ownsRow B 182 10 (.slice (some ⟨g, 0, none⟩) S.slots.length cap) S.slots.length (rowC S.slots) :=
    own_kB hT1.slots (fun b hb => Below.heap_setCell _ _ _ _ (by cases hb; exact fun e => hRg e.symm))
  have HR1 := Lib.hid kR
  have HX1 := Lib.hid kX
  have HC1 := Lib.hid hch1
  have HS1 := Lib.hid hs1
  clear kR kX hch1 hs1 zR hT1 hbx e0 e1 e2 e3 e4 ei
  generalize W.setCell ⟨R, 3, none⟩ (.slice (some ⟨fg, 0, none⟩) F.length fcap) = w1 at *
  have r0 := HR1.out.cell 0
  have r2 := HR1.out.cell 2
  have x0 := HX1.out.cell 0
  have x1 := HX1.out.cell 1
  have x2 := HX1.out.cell 2
  have x3 := HX1.out.cell 3
  have x4 := HX1.out.cell 4
  have x5 := HX1.out.cell 5
  have x6 := HX1.out.cell 6
  have x7 := HX1.out.cell 7
  have x8 := HX1.out.cell 8
  simp only [List.getElem?_cons_succ, List.getElem?_cons_zero] at r0 r2 x0 x1 x2 x3 x4 x5 x6 x7 x8
  have sc : ∀ j, j < 10 → w1.cell? ⟨g, i * 10 + j, none⟩ = (slotC none)[j]? := fun j hj => by
    have hl : j < (slotC none).length := by rw [slotC_len]; exact hj
    rw [List.getElem?_eq_getElem hl]
    have := HS1.out.cells (g := g) rfl (i * 10 + j) (slotC none)[j] (by rw [rowC_at _ _ _ HHi.out _ hj, List.getElem?_eq_getElem hl])
    rw [Go.WideShapes.add_plain, Nat.zero_add] at this
    exact this
  have s0 := sc 0 (by omega)
  have s1 := sc 1 (by omega)
  have s2 := sc 2 (by omega)
  have s3 := sc 3 (by omega)
  have s4 := sc 4 (by omega)
  have s5 := sc 5 (by omega)
  have s6 := sc 6 (by omega)
  have s7 := sc 7 (by omega)
  have s8 := sc 8 (by omega)
  have s9 := sc 9 (by omega)
  simp only [slotC, zeroC, strV, List.getElem?_cons_succ, List.getElem?_cons_zero, Nat.add_zero] at s0 s1 s2 s3 s4 s5 s6 s7 s8 s9
  have sz : ∀ j, w1.frozen? ⟨g, j, none⟩ = false := fun j => by
    rcases HS1.out.2 with ⟨e, _⟩ | ⟨g', cap', cur, e, _, hh, _⟩
    · cases e
    · cases e; exact Lib.frozen_of_heap hh _
  clear sc
  go_region
  have hrow2 := (own_setB (own_setB (own_setB (own_setB (own_setB (own_setB (own_setB (own_setB (own_setB (own_setB HS1.out (i * 10) (.bool true)) (i * 10 + 1) (.int .i64 n.kind)) (i * 10 + 2) (.string ⟨n.name.toArray⟩)) (i * 10 + 3) (.slice av n.attrs.length acap)) (i * 10 + 4) (.string ⟨n.data.toArray⟩)) (i * 10 + 5) (.int .i64 n.parent)) (i * 10 + 6) (.int .i64 n.first)) (i * 10 + 7) (.int .i64 n.last)) (i * 10 + 8) (.int .i64 n.prev)) (i * 10 + 9) (.int .i64 n.next))
  have hset : rowC (S.slots.set i (some n)) = _ := rowC_put S.slots i (some n) hil
  simp only [slotC, ndC, hav, strV, setAll] at hset
  have hch2 := (((((((((((Chg.refl (fun k => k = g) w1).setCell ⟨g, i * 10, none⟩ (fun _ => (rfl : g = g)) (.bool true)).setCell ⟨g, i * 10 + 1, none⟩ (fun _ => (rfl : g = g)) (.int .i64 n.kind)).setCell ⟨g, i * 10 + 2, none⟩ (fun _ => (rfl : g = g)) (.string ⟨n.name.toArray⟩)).setCell ⟨g, i * 10 + 3, none⟩ (fun _ => (rfl : g = g)) (.slice av n.attrs.length acap)).setCell ⟨g, i * 10 + 4, none⟩ (fun _ => (rfl : g = g)) (.string ⟨n.data.toArray⟩)).setCell ⟨g, i * 10 + 5, none⟩ (fun _ => (rfl : g = g)) (.int .i64 n.parent)).setCell ⟨g, i * 10 + 6, none⟩ (fun _ => (rfl : g = g)) (.int .i64 n.first)).setCell ⟨g, i * 10 + 7, none⟩ (fun _ => (rfl : g = g)) (.int .i64 n.last)).setCell ⟨g, i * 10 + 8, none⟩ (fun _ => (rfl : g = g)) (.int .i64 n.prev)).setCell ⟨g, i * 10 + 9, none⟩ (fun _ => (rfl : g = g)) (.int .i64 n.next))
  have hR2 := HR1.out.chg hch2 (fun e => hRg e)
  have HRow := Lib.hid hrow2
  have HSet := Lib.hid hset
  have HC2 := Lib.hid hch2
  have HR2 := Lib.hid hR2
  clear hrow2 hset hch2 hR2 r0 r2 x0 x1 x2 x3 x4 x5 x6 x7 x8 s0 s1 s2 s3 s4 s5 s6 s7 s8 s9 sz
  generalize ((((((((((w1.setCell ⟨g, i * 10, none⟩ (.bool true)).setCell ⟨g, i * 10 + 1, none⟩ (.int .i64 n.kind)).setCell ⟨g, i * 10 + 2, none⟩ (.string ⟨n.name.toArray⟩)).setCell ⟨g, i * 10 + 3, none⟩ (.slice av n.attrs.length acap)).setCell ⟨g, i * 10 + 4, none⟩ (.string ⟨n.data.toArray⟩)).setCell ⟨g, i * 10 + 5, none⟩ (.int .i64 n.parent)).setCell ⟨g, i * 10 + 6, none⟩ (.int .i64 n.first)).setCell ⟨g, i * 10 + 7, none⟩ (.int .i64 n.last)).setCell ⟨g, i * 10 + 8, none⟩ (.int .i64 n.prev)).setCell ⟨g, i * 10 + 9, none⟩ (.int .i64 n.next)) = w2 at *
  have r0 := HR2.out.cell 0
  have r1 := HR2.out.cell 1
  have r4 := HR2.out.cell 4
  have rz := HR2.out.free
  simp only [List.getElem?_cons_succ, List.getElem?_cons_zero] at r0 r1 r4
  go_wp2_with fail
  refine (handle_any S.b S.s (i : Nat) _).mono ?_
  rintro e w3 ⟨rfl, hb3⟩
  go_wp2_with fail
  go_ret
  have hlf := live_fill S.slots i n HHi.out
  have k4 := (HR2.out.set 4 (.int .i64 ((S.live : Int) + 1)))
  simp only [List.set_cons_succ, List.set_cons_zero] at k4
  have hch4 : Chg (fun k => k = R ∨ k = g) w (w2.setCell ⟨R, 4, none⟩ (.int .i64 ((S.live : Int) + 1))) := (HC1.out.trans HC2.out (fun _ _ e => .inr e)).setCell ⟨R, 4, none⟩ (fun _ => .inl rfl) _
  replace hb3 : Below (w2.setCell ⟨R, 4, none⟩ (.int .i64 ((S.live : Int) + 1))).heap.size (w2.setCell ⟨R, 4, none⟩ (.int .i64 ((S.live : Int) + 1))) w3 := ⟨hb3.os, hb3.tape, hb3.output, hb3.size, hb3.block⟩
  have hch5 := hch4.trans (Chg.of_below (F := fun k => k = R ∨ k = g) hb3) (fun _ _ e => e)
  have oth : ∀ {k : Nat} {cs : Array Value} {t : TypeId}, w.heap[k]? = some (.cells cs t (0, 0)) → t ≠ 182 → t ≠ 111 → w3.heap[k]? = w.heap[k]? := fun {k cs t} hk h1 h2 => hch5.block k (lt_of_block hk) (fun e => by
    rcases e with rfl | rfl
    · exact blk_ne hk HT.out.blk h2 rfl
    · obtain ⟨cur, hc⟩ := own_ty HT.out.slots (g := k) rfl
      exact blk_ne hk hc h1 rfl)
  refine ⟨.slice (some ⟨fg, 0, none⟩) F.length fcap, rfl, ⟨?_, ?_, ?_, ?_, HT.out.base, by simp only [List.length_set]; exact hfew⟩, hch5, rfl⟩
  · have := k4.below hb3
    unfold Tr.live at *
    simp only []
    rw [hlf]
    exact this
  · simp only [List.length_set]
    rw [HSet.out]
    refine own_kB HRow.out (fun b hb => ?_)
    have hbg : b = g := by cases hb; rfl
    subst hbg
    have hl2 : b < w2.heap.size := (HRow.out.lt b rfl).2
    exact (hb3.block b (by simp [World.setCell]; exact hl2)).trans (Below.heap_setCell _ _ _ _ (fun e => hRg e.symm))
  · have h1 := own_popB HFr.out
    have h2 := own_kB h1 (w' := w3) (fun b hb => by
      obtain ⟨cur, hc⟩ := own_ty HT.out.free (g := b) (by cases hb; rfl)
      exact oth hc (by decide) (by decide))
    have e : (List.map (fun (i : Nat) => Value.int .i64 (i : Int)) (F ++ [i])).take (F.length * 1) = F.map (fun (i : Nat) => Value.int .i64 (i : Int)) := by
      rw [Nat.mul_one, List.map_append, List.take_append_of_le_length (by simp), List.take_of_length_le (by simp)]
    rw [e] at h2
    exact h2
  · intro k m hk
    have hcase : (k = i ∧ m = n) ∨ S.slots[k]? = some (some m) := by
      simp only [] at hk
      rw [List.getElem?_set] at hk
      by_cases e : i = k
      · rw [if_pos e, if_pos hil] at hk; cases hk; exact .inl ⟨e.symm, rfl⟩
      · rw [if_neg e] at hk; exact .inr hk
    have keepA : ∀ {v l}, AttrAt B w v l → AttrAt B w3 v l := fun {v l} ha => by
      obtain ⟨a, c, e, h'⟩ := ha
      refine ⟨a, c, e, h'.imp id ?_⟩
      rintro ⟨b, cur, e2, hB, hg, hc⟩
      exact ⟨b, cur, e2, hB, (oth hg (by decide) (by decide)).trans hg, hc⟩
    rcases hcase with ⟨rfl, rfl⟩ | hk
    · exact keepA HN.out
    · exact keepA (HT.out.attrs k m hk)
theorem add_any {B R : Nat} {S : Tr} {sv fv : Value} {w : World} (h : TAt B R S sv fv w) (hfr : ∀ i ∈ S.free, S.slots[i]? = some none) (hfl : S.free.length ≤ 1000000) (hl : S.slots.length < 1000000) (n : Nd) (hn : AttrAt B w n.av n.attrs) :
    Calls Tryz.prog 106 #[.pointer (some ⟨R, 0, none⟩), .agg #[.int .i64 n.kind, .string ⟨n.name.toArray⟩, n.av, .string ⟨n.data.toArray⟩, .int .i64 n.parent, .int .i64 n.first, .int .i64 n.last, .int .i64 n.prev, .int .i64 n.next]] w fun e w' => ∃ sv' fv', e = .returned (.int .i64 (S.hd S.addI)) ∧
      TAt B R (S.add n) sv' fv' w' ∧ Chg (fun k => k = R ∨ sv.ownBlock = some k) w w' ∧ (sv'.ownBlock = sv.ownBlock ∨ ∃ k, sv'.ownBlock = some k ∧ w.heap.size ≤ k) ∧ fv'.ownBlock = fv.ownBlock := by
  cases e : S.free.getLast? with
  | none =>
    have e' : S.free = [] := by simpa using e
    have ha : S.add n = S.snoc n := by unfold Tr.add; rw [e]
    have hi : S.addI = S.slots.length := by unfold Tr.addI; rw [e]; rfl
    rw [ha, hi]
    refine (add_new h e' hl n hn).mono ?_
    rintro e w' ⟨sv', rfl, h1, h2, h3⟩
    exact ⟨sv', fv, rfl, h1, h2, h3, rfl⟩
  | some i =>
    obtain ⟨F, hF⟩ := List.getLast?_eq_some_iff.1 e
    have hi := hfr i (List.mem_of_getLast? e)
    have hil := (List.getElem?_eq_some_iff.1 hi).1
    obtain ⟨g, cap, rfl⟩ := slots_some h (by omega)
    have ha : S.add n = { S with slots := S.slots.set i (some n), free := F } := by unfold Tr.add; rw [e, hF]; simp
    have hi2 : S.addI = i := by unfold Tr.addI; rw [e]; rfl
    rw [ha, hi2]
    refine (add_old h hF hi n hn (by rw [hF] at hfl; simp at hfl; omega)).mono ?_
    rintro e w' ⟨fv', rfl, h1, h2, h3⟩
    exact ⟨_, fv', rfl, h1, h2.mono (fun k _ hk => hk.imp id (fun e => by rw [e]; rfl)), .inl rfl, h3⟩



def mkN (kind : Int) (name : List UInt8) (av : Value) (al : List Atr) (data : List UInt8) : Nd := ⟨kind, name, av, al, data, 0, 0, 0, 0, 0⟩
inductive MakT (W : Nat) (S : Tr) (kind : Int) (name data : List UInt8) (al : List Atr) : Tr → Int → Int → Prop
  | kind (h2 : kind ≠ 2) (h3 : kind ≠ 3) (h4 : kind ≠ 4) : MakT W S kind name data al S 0 1
  | arg (h : kind = 2) (hn : (elmB name && namesB al) = false) : MakT W S kind name data al S 0 1
  | many (h : kind = 2) (hn : (elmB name && namesB al) = true) (h2 : 64 < al.length) : MakT W S kind name data al S 0 5
  | el (av : Value) (h : kind = 2) (hn : (elmB name && namesB al) = true) (h2 : al.length ≤ 64) (hfr : ∀ k, av.ownBlock = some k → W ≤ k) : MakT W S kind name data al (S.add (mkN 2 name av (al.map fun a => (a.1, fix a.2)) [])) (S.hd S.addI) 0
  | tx (h : kind = 3 ∨ kind = 4) : MakT W S kind name data al (S.add (mkN kind [] (.slice none 0 0) [] (fix data))) (S.hd S.addI) 0
def MakTR (B R : Nat) (S : Tr) (sv fv : Value) (w : World) (kind : Int) (name data : List UInt8) (al : List Atr) (e : Ending) (w' : World) : Prop :=
  ∃ S' sv' fv' h en, MakT w.heap.size S kind name data al S' h en ∧ e = .returned (.tuple #[.int .i64 h, .int .i64 en]) ∧ TAt B R S' sv' fv' w' ∧ Chg (fun k => k = R ∨ sv.ownBlock = some k) w w' ∧ (sv'.ownBlock = sv.ownBlock ∨ ∃ k, sv'.ownBlock = some k ∧ w.heap.size ≤ k) ∧ fv'.ownBlock = fv.ownBlock
theorem MakTR.same {B R : Nat} {S : Tr} {sv fv : Value} {w w' : World} {kind : Int} {name data : List UInt8} {al : List Atr} (h : TAt B R S sv fv w) (hb : Below w.heap.size w w') {en : Int} (hm : MakT w.heap.size S kind name data al S 0 en) : MakTR B R S sv fv w kind name data al (.returned (.tuple #[.int .i64 0, .int .i64 en])) w' :=
  ⟨S, sv, fv, 0, en, hm, rfl, h.below hb, Chg.of_below hb, .inl rfl, rfl⟩
set_option maxRecDepth 100000 in
set_option maxHeartbeats 8000000 in
theorem mkT_3 {B R : Nat} {S : Tr} {sv fv : Value} {w : World} (h : TAt B R S sv fv w) (hT : Laid w) (hfr : ∀ i ∈ S.free, S.slots[i]? = some none) (hfl : S.free.length ≤ 1000000) (hl : S.slots.length < 20000) (name data : List UInt8) (hd : data.length ≤ 1000) (v : Value) (al : List Atr) :
    Calls Tryz.prog 56 #[.pointer (some ⟨R, 0, none⟩), (.int .i64 3), .string ⟨name.toArray⟩, .string ⟨data.toArray⟩, v] w (MakTR B R S sv fv w 3 name data al) := by
  have HRp := Lib.hid (fun wx (hb : Below w.heap.size w wx) => repair_any data wx (by omega) (hT.below hb))
  have HM := Lib.hid (MakT.tx (W := w.heap.size) (S := S) (name := name) (data := data) (al := al) (kind := 3) (by decide))
  have hfx := fix_len data
  have HTt := Lib.hid h
  have hlv : S.live ≤ S.slots.length := List.length_filter_le _ _
  have hlt := h.blk.lt
  have HA := Lib.hid (fun w9 (hb : Below w.heap.size w w9) => add_any (h.below hb) hfr hfl (by omega) (mkN 3 [] (.slice none 0 0) [] (fix data)) ⟨none, 0, rfl, .inl rfl⟩)
  clear h hT hfr hfl
  go_enter Tryz.func56, Tryz.ntmps56
  go_wp2_with fail
  have hx0 := Blk.new w (ndC (mkN 3 [] (.slice none 0 0) [] [])) 135
  have hb0 := (Below.refl w.heap.size w).alloc (Nat.le_refl _) (.cells (ndC (mkN 3 [] (.slice none 0 0) [] [])).toArray 135)
  refine (HRp.out _ hb0).mono ?_
  rintro e w2 ⟨rfl, hb2⟩
  have hb02 := bthen hb0 hb2
  have hx2 := Blk.below hx0 hb2
  simp only [ndC, mkN, strV] at hx2
  have c2 := hx2.cell 2
  have c3 := hx2.cell 3
  simp only [List.getElem?_cons_succ, List.getElem?_cons_zero] at c2 c3
  have f3 := hx2.free 3
  have HX3 := Lib.hid (hx2.set 3 (.string ⟨(fix data).toArray⟩))
  have HB3 := Lib.hid (hb02.setCell (p := ⟨w.heap.size, 3, none⟩) (Nat.le_refl _) (.string ⟨(fix data).toArray⟩))
  clear hb0 hb2 hb02 hx0 hx2
  go_upto_region 16 with fail
  clear c2 c3 f3
  generalize w2.setCell ⟨w.heap.size, 3, none⟩ (.string ⟨(fix data).toArray⟩) = w3 at *
  have hT3 := HTt.out.below HB3.out
  have HL := Lib.hid (len_any hT3)
  have x2 := HX3.out.cell 2
  have x3 := HX3.out.cell 3
  simp only [List.set_cons_succ, List.set_cons_zero, List.getElem?_cons_succ, List.getElem?_cons_zero] at x2 x3
  have zR := hT3.blk.free
  clear hT3
  have d1 : decide ((20000 : Int) ≤ (S.live : Int)) = false := by simp; omega
  go_wp2_with fail
  refine HL.out.mono ?_
  rintro e w5 ⟨rfl, hw⟩
  rw [hw]
  clear hw
  go_wp2_with fail
  refine (long_any ⟨(fix data).toArray⟩ (by rw [bsz]; omega) _).mono ?_
  rintro e w6 ⟨rfl, hw⟩
  rw [hw, show decide (1048576 < (⟨(fix data).toArray⟩ : ByteArray).size) = false by rw [bsz]; simp; omega]
  clear hw
  go_wp2_with fail
  refine (containsFunc_nil _ _).mono ?_
  rintro e w7 ⟨rfl, hw⟩
  rw [hw]
  clear hw d1 x2 x3
  go_upto_region 18 with fail
  have hne := stb_ne w3
  have hgl := HX3.out.lt
  have xs := fun (x : InS (StB w3)) => HX3.out.below x.h
  simp only [List.set_cons_succ, List.set_cons_zero] at xs
  have z0 := fun x => (xs x).cell 0
  have z1 := fun x => (xs x).cell 1
  have z2 := fun x => (xs x).cell 2
  have z3 := fun x => (xs x).cell 3
  have z4 := fun x => (xs x).cell 4
  have z5 := fun x => (xs x).cell 5
  have z6 := fun x => (xs x).cell 6
  have z7 := fun x => (xs x).cell 7
  have z8 := fun x => (xs x).cell 8
  simp only [List.getElem?_cons_succ, List.getElem?_cons_zero] at z0 z1 z2 z3 z4 z5 z6 z7 z8
  clear xs
  refine reg_b (fun _ => undef) 4 (by kernel_rfl) (by kernel_rfl) ?_
  simp only [List.take_succ_cons, List.take_zero, List.drop_succ_cons, List.drop_zero]
  repeat (first
    | (refine m_held (by rfl) (by rfl) (fun K hK => ?_); go_big_quiet_step (fail); refine wpQuiet_nil ?_; refine hK.out _ ?_; clear hK K)
    | (refine m_skip (by rfl) ?_; simp only [Act.put, List.setIfInBounds_toArray, List.set_cons_zero, List.set_cons_succ]))
  refine m_nil ?_
  intro w8 h8
  clear z0 z1 z2 z3 z4 z5 z6 z7 z8 hne
  go_wp2_with fail
  have h8' : Below w.heap.size w w8 := HB3.out.trans (h8.mono HB3.out.size)
  refine (HA.out _ h8').mono ?_
  rintro e w9 ⟨sv', fv', rfl, hT9, hC9, hsv, hfv⟩
  have H9 := Lib.hid hT9
  have HC := Lib.hid hC9
  have HS := Lib.hid hsv
  clear hT9 hC9 hsv
  go_wp2_with fail
  go_ret2
  refine ⟨_, sv', fv', _, 0, HM.out, rfl, H9.out, (Chg.of_below h8').trans HC.out (fun _ _ h => h), ?_, hfv⟩
  rcases HS.out with e | ⟨k, e, hk⟩
  · exact .inl e
  · exact .inr ⟨k, e, Nat.le_trans h8'.size hk⟩
set_option maxRecDepth 100000 in
set_option maxHeartbeats 8000000 in
theorem mkT_4 {B R : Nat} {S : Tr} {sv fv : Value} {w : World} (h : TAt B R S sv fv w) (hT : Laid w) (hfr : ∀ i ∈ S.free, S.slots[i]? = some none) (hfl : S.free.length ≤ 1000000) (hl : S.slots.length < 20000) (name data : List UInt8) (hd : data.length ≤ 1000) (v : Value) (al : List Atr) :
    Calls Tryz.prog 56 #[.pointer (some ⟨R, 0, none⟩), (.int .i64 4), .string ⟨name.toArray⟩, .string ⟨data.toArray⟩, v] w (MakTR B R S sv fv w 4 name data al) := by
  have HRp := Lib.hid (fun wx (hb : Below w.heap.size w wx) => repair_any data wx (by omega) (hT.below hb))
  have HM := Lib.hid (MakT.tx (W := w.heap.size) (S := S) (name := name) (data := data) (al := al) (kind := 4) (by decide))
  have hfx := fix_len data
  have HTt := Lib.hid h
  have hlv : S.live ≤ S.slots.length := List.length_filter_le _ _
  have hlt := h.blk.lt
  have HA := Lib.hid (fun w9 (hb : Below w.heap.size w w9) => add_any (h.below hb) hfr hfl (by omega) (mkN 4 [] (.slice none 0 0) [] (fix data)) ⟨none, 0, rfl, .inl rfl⟩)
  clear h hT hfr hfl
  go_enter Tryz.func56, Tryz.ntmps56
  go_wp2_with fail
  have hx0 := Blk.new w (ndC (mkN 4 [] (.slice none 0 0) [] [])) 135
  have hb0 := (Below.refl w.heap.size w).alloc (Nat.le_refl _) (.cells (ndC (mkN 4 [] (.slice none 0 0) [] [])).toArray 135)
  refine (HRp.out _ hb0).mono ?_
  rintro e w2 ⟨rfl, hb2⟩
  have hb02 := bthen hb0 hb2
  have hx2 := Blk.below hx0 hb2
  simp only [ndC, mkN, strV] at hx2
  have c2 := hx2.cell 2
  have c3 := hx2.cell 3
  simp only [List.getElem?_cons_succ, List.getElem?_cons_zero] at c2 c3
  have f3 := hx2.free 3
  have HX3 := Lib.hid (hx2.set 3 (.string ⟨(fix data).toArray⟩))
  have HB3 := Lib.hid (hb02.setCell (p := ⟨w.heap.size, 3, none⟩) (Nat.le_refl _) (.string ⟨(fix data).toArray⟩))
  clear hb0 hb2 hb02 hx0 hx2
  go_upto_region 16 with fail
  clear c2 c3 f3
  generalize w2.setCell ⟨w.heap.size, 3, none⟩ (.string ⟨(fix data).toArray⟩) = w3 at *
  have hT3 := HTt.out.below HB3.out
  have HL := Lib.hid (len_any hT3)
  have x2 := HX3.out.cell 2
  have x3 := HX3.out.cell 3
  simp only [List.set_cons_succ, List.set_cons_zero, List.getElem?_cons_succ, List.getElem?_cons_zero] at x2 x3
  have zR := hT3.blk.free
  clear hT3
  have d1 : decide ((20000 : Int) ≤ (S.live : Int)) = false := by simp; omega
  go_wp2_with fail
  refine HL.out.mono ?_
  rintro e w5 ⟨rfl, hw⟩
  rw [hw]
  clear hw
  go_wp2_with fail
  refine (long_any ⟨(fix data).toArray⟩ (by rw [bsz]; omega) _).mono ?_
  rintro e w6 ⟨rfl, hw⟩
  rw [hw, show decide (1048576 < (⟨(fix data).toArray⟩ : ByteArray).size) = false by rw [bsz]; simp; omega]
  clear hw
  go_wp2_with fail
  refine (containsFunc_nil _ _).mono ?_
  rintro e w7 ⟨rfl, hw⟩
  rw [hw]
  clear hw d1 x2 x3
  go_upto_region 18 with fail
  have hne := stb_ne w3
  have hgl := HX3.out.lt
  have xs := fun (x : InS (StB w3)) => HX3.out.below x.h
  simp only [List.set_cons_succ, List.set_cons_zero] at xs
  have z0 := fun x => (xs x).cell 0
  have z1 := fun x => (xs x).cell 1
  have z2 := fun x => (xs x).cell 2
  have z3 := fun x => (xs x).cell 3
  have z4 := fun x => (xs x).cell 4
  have z5 := fun x => (xs x).cell 5
  have z6 := fun x => (xs x).cell 6
  have z7 := fun x => (xs x).cell 7
  have z8 := fun x => (xs x).cell 8
  simp only [List.getElem?_cons_succ, List.getElem?_cons_zero] at z0 z1 z2 z3 z4 z5 z6 z7 z8
  clear xs
  refine reg_b (fun _ => undef) 4 (by kernel_rfl) (by kernel_rfl) ?_
  simp only [List.take_succ_cons, List.take_zero, List.drop_succ_cons, List.drop_zero]
  repeat (first
    | (refine m_held (by rfl) (by rfl) (fun K hK => ?_); go_big_quiet_step (fail); refine wpQuiet_nil ?_; refine hK.out _ ?_; clear hK K)
    | (refine m_skip (by rfl) ?_; simp only [Act.put, List.setIfInBounds_toArray, List.set_cons_zero, List.set_cons_succ]))
  refine m_nil ?_
  intro w8 h8
  clear z0 z1 z2 z3 z4 z5 z6 z7 z8 hne
  go_wp2_with fail
  have h8' : Below w.heap.size w w8 := HB3.out.trans (h8.mono HB3.out.size)
  refine (HA.out _ h8').mono ?_
  rintro e w9 ⟨sv', fv', rfl, hT9, hC9, hsv, hfv⟩
  have H9 := Lib.hid hT9
  have HC := Lib.hid hC9
  have HS := Lib.hid hsv
  clear hT9 hC9 hsv
  go_wp2_with fail
  go_ret2
  refine ⟨_, sv', fv', _, 0, HM.out, rfl, H9.out, (Chg.of_below h8').trans HC.out (fun _ _ h => h), ?_, hfv⟩
  rcases HS.out with e | ⟨k, e, hk⟩
  · exact .inl e
  · exact .inr ⟨k, e, Nat.le_trans h8'.size hk⟩
end Go.Proofs.YtacdbnhnhdlmpaaGreatDoor.W
end
