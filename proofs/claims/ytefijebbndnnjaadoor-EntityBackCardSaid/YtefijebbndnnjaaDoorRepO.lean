/- The replacer whole: built once, then used; Escape and EscapeAttr. -/
import Derived.Test.YtefijebbndnnjaaDoorRepR
set_option linter.unusedVariables false
set_option linter.unusedSimpArgs false
namespace Go.Proofs.YtefijebbndnnjaaDoor.W
open Go.RowKit

theorem Rep.low {B q G0 m ks T} {w w' : World} {F : Nat → Prop} (h : Rep B q G0 m ks T w) (hc : Chg F w w') (hF : ∀ k, F k → k < B) : Rep B q G0 m ks T w' := by
  obtain ⟨hq, hG, hne, ⟨cs, hb, hl, h256, hcells⟩, hown⟩ := h
  have nF : ∀ k, B ≤ k → ¬ F k := fun k hk hf => by have := hF k hf; omega
  refine ⟨hq, hG, hne, ⟨cs, hb.chg hc (nF q hq), hl, h256, fun c => ?_⟩, ?_⟩
  · rcases hcells c with ⟨h1, h2⟩ | ⟨bs, g, cap, h1, h2, h3, h4, h5, h6, h7⟩
    · exact .inl ⟨h1, h2⟩
    · refine .inr ⟨bs, g, cap, h1, h2, h3, h4, h5, Nat.lt_of_lt_of_le h6 hc.size, fun j u hj => ?_⟩
      have hb := hc.block g h6 (nF g h3)
      have := h7 j u hj
      simp only [World.cell?] at this ⊢
      rw [hb]; exact this
  · obtain ⟨h1, h2⟩ := hown
    refine ⟨h1, ?_⟩
    rcases h2 with h2 | ⟨g, cap, cur, hv, hb, hh, rest⟩
    · exact .inl h2
    · exact .inr ⟨g, cap, cur, hv, hb, (hc.block g (lt_of_block hh) (nF g hb)).trans hh, rest⟩

set_option maxRecDepth 100000 in
set_option maxHeartbeats 2000000 in
theorem buildOnce_any (r A cap : Nat) (x3 : Value) (L : List (UInt8 × List UInt8)) (w : World) (hL : 2 ≤ L.length) (hL4 : L.length ≤ 4) (hv : ∀ p ∈ L, 2 ≤ p.2.length ∧ p.2.length ≤ 10) (hnd : (L.map (·.1)).Nodup)
    (hr : Blk w r [.int .u32 0, .int .i32 1, .int .u32 0, x3, .slice (some ⟨A, 0, none⟩) (flat L).length cap] 77) (hA : ∀ j u, ((flat L).map strC)[j]? = some u → w.cell? ⟨A, j, none⟩ = some u) :
    Calls Tryd.prog 48 #[.pointer (some ⟨r, 0, none⟩)] w fun e w' => e = .returned (.tuple #[]) ∧ ∃ y3 y4, Blk w' r [.int .u32 0, .int .i32 1, .int .u32 0, y3, y4] 77 ∧
      ∃ q G0, y3 = .iface 106 (.pointer (some ⟨q, 0, none⟩)) ∧ Rep w.heap.size q G0 L.length (L.map (·.1)).reverse (tabOf L) w' ∧ Chg (fun k => k = r) w w' := by
  have HB := Lib.hid (build_any r A cap L w hL hL4 hv hnd (hr.cell 4) hA)
  have HR := Lib.hid hr
  have hrl := hr.lt
  clear hv hnd hr hA
  go_enter Tryd.func48, Tryd.ntmps48
  go_wp2_with fail
  refine HB.out.mono ?_
  rintro e w2 ⟨q, G0, rfl, hrep, hb⟩
  have hr2 := HR.out.below hb
  have c3 := hr2.cell 3
  have z3 := hr2.free 3
  have c4 := hr2.cell 4
  have z4 := hr2.free 4
  have HR2 := Lib.hid hr2
  have HP := Lib.hid hrep
  clear hr2 hrep
  go_wp2_with fail
  go_end0
  have hc : Chg (fun k => k = r) w2 ((w2.setCell ⟨r, 3, none⟩ (.iface 106 (.pointer (some ⟨q, 0, none⟩)))).setCell ⟨r, 4, none⟩ (.slice none 0 0)) :=
    ((Chg.refl (fun k => k = r) w2).setCell ⟨r, 3, none⟩ (fun _ => (rfl : r = r)) _).setCell ⟨r, 4, none⟩ (fun _ => (rfl : r = r)) _
  exact ⟨rfl, _, _, Blk.set (Blk.set HR2.out 3 _) 4 _, q, G0, rfl, HP.out.low hc (fun k hk => by subst hk; exact hrl), (Chg.of_below hb).trans hc (fun _ _ h => h)⟩

set_option maxRecDepth 100000 in
set_option maxHeartbeats 2000000 in
/-- Replace, the first time. -/
theorem useRep_any (r A cap : Nat) (L : List (UInt8 × List UInt8)) (s : ByteArray) (w : World) (hs : s.size ≤ 1000000) (hL : 2 ≤ L.length) (hL4 : L.length ≤ 4) (hv : ∀ p ∈ L, 2 ≤ p.2.length ∧ p.2.length ≤ 10) (hnd : (L.map (·.1)).Nodup)
    (hT : Tbl (L.map (·.1)).reverse (tabOf L))
    (hr : Blk w r [.int .u32 0, .int .i32 0, .int .u32 0, .nilIface, .slice (some ⟨A, 0, none⟩) (flat L).length cap] 77) (hA : ∀ j u, ((flat L).map strC)[j]? = some u → w.cell? ⟨A, j, none⟩ = some u) (hAr : A ≠ r) :
    Calls Tryd.prog 37 #[.pointer (some ⟨r, 0, none⟩), .string s] w fun e w' => e = .returned (.string ⟨(escL (tabOf L) s.data.toList).toArray⟩) ∧ Chg (fun k => k = r) w w' := by
  have hr1 := Blk.set hr 1 (.int .i32 1)
  have hA1 : ∀ j u, ((flat L).map strC)[j]? = some u → (w.setCell ⟨r, 1, none⟩ (.int .i32 1)).cell? ⟨A, j, none⟩ = some u := fun j u hj => by
    rw [World.cell?_setCell_other _ ⟨r, 1, none⟩ ⟨A, j, none⟩ _ (fun e => hAr (congrArg Addr.block e).symm)]; exact hA j u hj
  have HD := Lib.hid (do_first r .nilIface (.slice (some ⟨A, 0, none⟩) (flat L).length cap) w hr (fun y3 y4 w' => ∃ q G0, y3 = .iface 106 (.pointer (some ⟨q, 0, none⟩)) ∧ Rep (w.setCell ⟨r, 1, none⟩ (.int .i32 1)).heap.size q G0 L.length (L.map (·.1)).reverse (tabOf L) w' ∧ Chg (fun k => k = r) (w.setCell ⟨r, 1, none⟩ (.int .i32 1)) w')
    (fun w1 hw1 => by subst hw1; exact buildOnce_any r A cap .nilIface L _ hL hL4 hv hnd hr1 hA1))
  have HT := Lib.hid hT
  have hrl := hr.lt
  have hmf : ∀ (fn : Fn) (first cap : Array Value) (w : World), (Instr.makeFunc fn first cap).run Tryd.prog w = .ok (.func fn first cap) w := fun _ _ _ _ => rfl
  have hch1 : Chg (fun k => k = r) w (w.setCell ⟨r, 1, none⟩ (.int .i32 1)) := (Chg.refl (fun k => k = r) w).setCell ⟨r, 1, none⟩ (fun _ => (rfl : r = r)) _
  clear hv hnd hr hA hr1 hA1 hT
  go_enter Tryd.func37, Tryd.ntmps37
  go_wp2_with fail
  refine HD.out.mono ?_
  rintro e w2 ⟨rfl, w3, y3, y4, hb, ⟨q, G0, rfl, hrep, hch⟩, rfl⟩
  have hc4 : Chg (fun k => k = r) w3 ((w3.drew.setCell ⟨r, 0, none⟩ (.int .u32 1)).setCell ⟨r, 1, none⟩ (.int .i32 0)) :=
    (((Chg.refl (fun k => k = r) w3).drew).setCell ⟨r, 0, none⟩ (fun _ => (rfl : r = r)) _).setCell ⟨r, 1, none⟩ (fun _ => (rfl : r = r)) _
  have hrep4 := hrep.low hc4 (fun k hk => by subst hk; simp only [World.setCell, Array.size_modify]; exact hrl)
  have hb4 : Blk ((w3.drew.setCell ⟨r, 0, none⟩ (.int .u32 1)).setCell ⟨r, 1, none⟩ (.int .i32 0)) r [.int .u32 1, .int .i32 0, .int .u32 0, .iface 106 (.pointer (some ⟨q, 0, none⟩)), y4] 77 :=
    Blk.set (Blk.set (w := w3.drew) hb 0 (.int .u32 1)) 1 (.int .i32 0)
  have hch4 := (hch1.trans hch (fun _ _ h => h)).trans hc4 (fun _ _ h => h)
  have c3 := hb4.cell 3
  have HRC := Lib.hid (RepC.of hrep4 (by simp; omega))
  clear hb hrep hch hc4 hrep4 hb4 HD
  generalize (w3.drew.setCell ⟨r, 0, none⟩ (.int .u32 1)).setCell ⟨r, 1, none⟩ (.int .i32 0) = w4 at *
  go_wp2_with fail
  refine (replace_any q G0 _ _ _ s w4 hs (by simp; omega) HRC.out HT.out).mono ?_
  rintro e w5 ⟨rfl, hb5⟩
  go_wp2_with fail
  go_ret
  exact ⟨rfl, hch4.trans (G := fun k => k = r) (Chg.of_below hb5) (fun _ _ h => h)⟩
theorem tblT : Tbl (lisT.map (·.1)).reverse (tabOf lisT) := by
  refine ⟨by decide, fun c => ?_, fun c bs h => ?_⟩
  · have : tabOf lisT c = (lisT.find? (fun p => p.1 == c)).map (·.2) := rfl
    rw [this, Option.isSome_map, List.find?_isSome]
    simp only [List.mem_reverse, List.mem_map, beq_iff_eq]
  · obtain ⟨p, hp, rfl⟩ := Option.map_eq_some_iff.1 h
    have e : ∀ p ∈ lisT, 2 ≤ p.2.length ∧ p.2.length ≤ 10 := by decide
    exact e p (List.mem_of_find?_eq_some hp)
theorem tblA : Tbl (lisA.map (·.1)).reverse (tabOf lisA) := by
  refine ⟨by decide, fun c => ?_, fun c bs h => ?_⟩
  · have : tabOf lisA c = (lisA.find? (fun p => p.1 == c)).map (·.2) := rfl
    rw [this, Option.isSome_map, List.find?_isSome]
    simp only [List.mem_reverse, List.mem_map, beq_iff_eq]
  · obtain ⟨p, hp, rfl⟩ := Option.map_eq_some_iff.1 h
    have e : ∀ p ∈ lisA, 2 ≤ p.2.length ∧ p.2.length ≤ 10 := by decide
    exact e p (List.mem_of_find?_eq_some hp)

/-- NewReplacer, then Replace -/
theorem rep_pair (L : List (UInt8 × List UInt8)) (hL : 2 ≤ L.length) (hL4 : L.length ≤ 4) (hv : ∀ p ∈ L, 2 ≤ p.2.length ∧ p.2.length ≤ 10) (hnd : (L.map (·.1)).Nodup) (hT : Tbl (L.map (·.1)).reverse (tabOf L)) (B A : Nat) (w : World)
    (hA : ∀ j u, ((flat L).map strC)[j]? = some u → w.cell? ⟨A, j, none⟩ = some u) (hB : B ≤ w.heap.size) :
    Calls Tryd.prog 36 #[.slice (some ⟨A, 0, none⟩) (flat L).length (flat L).length] w fun e w' => ∃ r, e = .returned (.pointer (some ⟨r, 0, none⟩)) ∧ Below B w w' ∧
      ∀ s : ByteArray, s.size ≤ 1000000 → Calls Tryd.prog 37 #[.pointer (some ⟨r, 0, none⟩), .string s] w' fun e w2 => e = .returned (.string ⟨(escL (tabOf L) s.data.toList).toArray⟩) ∧ Below B w' w2 := by
  have hf := flat_len L
  refine (newRep_any B A (flat L) w (by omega) (by omega) (by omega) hA hB).mono ?_
  rintro e w' ⟨r, v, rfl, hBr, hblk, hown, hb⟩
  refine ⟨r, rfl, hb, fun s hs => ?_⟩
  have hvr : v.ownBlock ≠ some r := Lib.ownBlock_ne hown hblk (by decide)
  obtain ⟨A2, cap, rfl⟩ : ∃ A2 cap, v = .slice (some ⟨A2, 0, none⟩) (flat L).length cap := by
    rcases hown.2 with ⟨_, h⟩ | ⟨g, cap, cur, hv, _⟩
    · omega
    · exact ⟨g, cap, hv⟩
  have hcell : ∀ j u, ((flat L).map strC)[j]? = some u → w'.cell? ⟨A2, j, none⟩ = some u := fun j u hj => by
    have := hown.cells (g := A2) rfl j u hj
    rwa [show (⟨A2, 0, none⟩ : Addr).add j = ⟨A2, j, none⟩ by unfold Addr.add; split <;> simp_all] at this
  refine (useRep_any r A2 cap L s w' hs hL hL4 hv hnd hT hblk hcell (fun e => hvr (by rw [e]; rfl))).mono ?_
  rintro e w2 ⟨rfl, hc⟩
  exact ⟨rfl, hc.below (Nat.le_trans hB hb.size) (fun k hk => by subst hk; exact hBr)⟩

theorem cellsT (w : World) : ∀ j u, ((flat lisT).map strC)[j]? = some u → (w.alloc (.cells ((flat lisT).map strC).toArray 9)).cell? ⟨w.heap.size, j, none⟩ = some u := fun j u hj => by
  rw [Go.Joins.cell_alloc_mark_at _ _ _ _ _ _ rfl]; simpa using hj
theorem cellsA (w : World) : ∀ j u, ((flat lisA).map strC)[j]? = some u → (w.alloc (.cells ((flat lisA).map strC).toArray 9)).cell? ⟨w.heap.size, j, none⟩ = some u := fun j u hj => by
  rw [Go.Joins.cell_alloc_mark_at _ _ _ _ _ _ rfl]; simpa using hj

set_option maxRecDepth 100000 in
set_option maxHeartbeats 1000000 in
theorem escape_any (s : ByteArray) (w : World) (hs : s.size ≤ 1000000) :
    Calls Tryd.prog 20 #[.string s] w fun e w' => e = .returned (.string ⟨(escL (tabOf lisT) s.data.toList).toArray⟩) ∧ Below w.heap.size w w' := by
  have HP := Lib.hid (rep_pair lisT (by decide) (by decide) (by decide) (by decide) tblT w.heap.size w.heap.size _ (cellsT w) (by simp))
  have hbl := (Below.refl w.heap.size w).alloc (Nat.le_refl _) (.cells ((flat lisT).map strC).toArray 9)
  go_enter Tryd.func20, Tryd.ntmps20
  go_wp2_with fail
  refine HP.out.mono ?_
  rintro e w2 ⟨r, rfl, hb2, hrep⟩
  have HR := Lib.hid (hrep s hs)
  clear hrep
  go_wp2_with fail
  refine HR.out.mono ?_
  rintro e w3 ⟨rfl, hb3⟩
  go_wp2_with fail
  go_ret
  exact ⟨rfl, (hbl.trans hb2).trans hb3⟩
set_option maxRecDepth 100000 in
set_option maxHeartbeats 1000000 in
theorem escapeAttr_any (s : ByteArray) (w : World) (hs : s.size ≤ 1000000) :
    Calls Tryd.prog 22 #[.string s] w fun e w' => e = .returned (.string ⟨(escL (tabOf lisA) s.data.toList).toArray⟩) ∧ Below w.heap.size w w' := by
  have HP := Lib.hid (rep_pair lisA (by decide) (by decide) (by decide) (by decide) tblA w.heap.size w.heap.size _ (cellsA w) (by simp))
  have hbl := (Below.refl w.heap.size w).alloc (Nat.le_refl _) (.cells ((flat lisA).map strC).toArray 9)
  go_enter Tryd.func22, Tryd.ntmps22
  go_wp2_with fail
  refine HP.out.mono ?_
  rintro e w2 ⟨r, rfl, hb2, hrep⟩
  have HR := Lib.hid (hrep s hs)
  clear hrep
  go_wp2_with fail
  refine HR.out.mono ?_
  rintro e w3 ⟨rfl, hb3⟩
  go_wp2_with fail
  go_ret
  exact ⟨rfl, (hbl.trans hb2).trans hb3⟩
end Go.Proofs.YtefijebbndnnjaaDoor.W
