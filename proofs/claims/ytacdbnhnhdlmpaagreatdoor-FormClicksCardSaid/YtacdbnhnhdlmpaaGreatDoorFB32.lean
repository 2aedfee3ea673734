/- Texts joined: FrB. -/
import Derived.Test.YtacdbnhnhdlmpaaGreatDoorFB31
import Derived.Lib.SmallJoins
import Derived.OwnWalk
import Derived.Lib.ConvBytes
import Derived.Deep.WholeRow
set_option maxRecDepth 100000
set_option maxHeartbeats 40000000
set_option linter.unusedVariables false
set_option linter.unusedSimpArgs false
section
namespace Go.Proofs.YtacdbnhnhdlmpaaGreatDoor.W
open Go.RowKit
def flat : List (UInt8 × List UInt8) → List (List UInt8)
  | [] => []
  | p :: L => [p.1] :: p.2 :: flat L
theorem flatR_len : ∀ L, (flat L).length = 2 * L.length
  | [] => rfl
  | p :: L => by simp [flat, flatR_len L]; omega
theorem flat_at : ∀ (L : List (UInt8 × List UInt8)) (j : Nat) (p : UInt8 × List UInt8), L[j]? = some p → (flat L)[2 * j]? = some [p.1] ∧ (flat L)[2 * j + 1]? = some p.2
  | [], j, p, h => by simp at h
  | q :: L, 0, p, h => by simp at h; subst h; exact ⟨rfl, rfl⟩
  | q :: L, j + 1, p, h => by
    have := flat_at L j p (by simpa using h)
    rw [show 2 * (j + 1) = 2 * j + 1 + 1 by omega]
    exact this
def tabOf (L : List (UInt8 × List UInt8)) (c : UInt8) : Option (List UInt8) := (L.find? (fun p => p.1 == c)).map (·.2)
def CellOf (B q G0 : Nat) (w : World) (t : Option (List UInt8)) (cs : List Value) (c : Nat) : Prop :=
  (t = none ∧ cs[c]? = some (.slice none 0 0)) ∨
  ∃ bs g cap, t = some bs ∧ cs[c]? = some (.slice (some ⟨g, 0, none⟩) bs.length cap) ∧ B ≤ g ∧ g ≠ q ∧ g ≠ G0 ∧ g < w.heap.size ∧ ∀ j u, (Lib.byteCells bs)[j]? = some u → w.cell? ⟨g, j, none⟩ = some u
theorem CellOf.keep {B q G0 : Nat} {w w' : World} {t : Option (List UInt8)} {cs cs' : List Value} {c : Nat} (h : CellOf B q G0 w t cs c) (hc : Chg (fun k => k = q ∨ k = G0) w w') (e : cs'[c]? = cs[c]?) : CellOf B q G0 w' t cs' c := by
  rcases h with ⟨h1, h2⟩ | ⟨bs, g, cap, h1, h2, h3, h4, h5, h6, h7⟩
  · exact .inl ⟨h1, by rw [e]; exact h2⟩
  · refine .inr ⟨bs, g, cap, h1, by rw [e]; exact h2, h3, h4, h5, Nat.lt_of_lt_of_le h6 hc.size, fun j u hj => ?_⟩
    have hb := hc.block g h6 (by rintro (h | h) <;> contradiction)
    have := h7 j u hj
    simp only [World.cell?] at this ⊢
    rw [hb]; exact this
structure Rep (B q G0 m : Nat) (ks : List UInt8) (T : UInt8 → Option (List UInt8)) (w : World) : Prop where
  hq : B ≤ q
  hG : B ≤ G0
  hne : q ≠ G0
  blk : ∃ cs, Blk w q cs 256 ∧ cs.length = 257 ∧ cs[256]? = some (.slice (some ⟨G0, 0, none⟩) ks.length m) ∧ ∀ c : UInt8, CellOf B q G0 w (T c) cs c.toNat
  own : w.ownsRow B 9 1 (.slice (some ⟨G0, 0, none⟩) ks.length m) ks.length (ks.map fun c => strC [c])
theorem zero105 : Tryz.zeroCells256 = Array.replicate 257 (.slice none 0 0) := by kernel_rfl
theorem zero105_at (v : Value) (c : Nat) (hc : c < 256) : (Tryz.zeroCells256.toList.set 256 v)[c]? = some (.slice none 0 0) := by
  rw [zero105, Array.toList_replicate, List.getElem?_set, if_neg (by omega), List.getElem?_replicate, if_pos (by omega)]
theorem store105 (w2 : World) (v : Value) (hv : v.oneCell' = true) : (storeCells ⟨w2.heap.size, 0, none⟩ (Tryz.zeroCells256.toList.set 256 v)).run Tryz.prog (w2.alloc (.cells Tryz.zeroCells256 256)) = .ok () (w2.alloc (.cells (Tryz.zeroCells256.toList.set 256 v).toArray 256)) := by
  have hs : Tryz.zeroCells256.size = 257 := by rw [zero105, Array.size_replicate]
  have hsz : (Tryz.zeroCells256.toList.set 256 v).toArray.size = 257 := by rw [List.size_toArray, List.length_set, Array.length_toList, hs]
  have h := run_storeCells_new (P := Tryz.prog) w2 256 Tryz.zeroCells256 (Tryz.zeroCells256.toList.set 256 v).toArray (by rw [hsz]; kernel_rfl) (by rw [hsz, hs]) (all_oneCell_toArray (fun u hu => by
    rw [zero105] at hu
    rcases List.mem_or_eq_of_mem_set hu with h | rfl
    · rw [Array.toList_replicate] at h; rw [List.eq_of_mem_replicate h]; rfl
    · exact hv))
  exact h
theorem below_bytes (w : World) (s : ByteArray) : Below w.heap.size w (Lib.bytesWorld w 5 s) :=
  ⟨rfl, rfl, rfl, by rw [Lib.bytesWorld_size]; omega, fun k hk => Lib.bytesWorld_at_old w _ s k hk⟩
theorem own_below_base {w w' : World} {B e n : Nat} {v : Value} {xs : List Value} (h : w.ownsRow B e 1 v n xs) (hb : Below w.heap.size w w') : w'.ownsRow B e 1 v n xs :=
  h.kept (row := none) ⟨hb.os, hb.tape, hb.output, hb.size, fun k hk _ => hb.block k hk⟩ (by cases e : v.ownBlock with | none => exact Or.inl rfl | some g => exact Or.inr (by simp))
def B1R (w : World) (m : Nat) (av iv : Value) (wr : World) : Prop :=
  ∃ j : Nat, j ≤ m ∧ av = .bool (decide (j = 0)) ∧ iv = .int .i64 ((2 * j : Nat) : Int) ∧ Below w.heap.size w wr
def B4R (w : World) (q G0 : Nat) (L : List (UInt8 × List UInt8)) (iv : Value) (wr : World) : Prop :=
  ∃ j : Nat, j ≤ L.length ∧ iv = .int .i64 (2 * (j : Int) - 2) ∧ Rep w.heap.size q G0 L.length ((L.drop j).map (·.1)).reverse (tabOf (L.drop j)) wr ∧ Below w.heap.size w wr
set_option maxRecDepth 100000 in
set_option maxHeartbeats 4000000 in
theorem build_any (r A cap : Nat) (L : List (UInt8 × List UInt8)) (w : World) (hL : 2 ≤ L.length) (hL4 : L.length ≤ 4) (hv : ∀ p ∈ L, p.2.length ≠ 1 ∧ p.2.length ≤ 10) (hnd : (L.map (·.1)).Nodup)
    (hr : w.cell? ⟨r, 4, none⟩ = some (.slice (some ⟨A, 0, none⟩) (flat L).length cap)) (hA : ∀ j u, ((flat L).map strC)[j]? = some u → w.cell? ⟨A, j, none⟩ = some u) :
    Calls Tryz.prog 163 #[.pointer (some ⟨r, 0, none⟩)] w fun e w' => ∃ q G0, e = .returned (.iface 257 (.pointer (some ⟨q, 0, none⟩))) ∧
      Rep w.heap.size q G0 L.length (L.map (·.1)).reverse (tabOf L) w' ∧ Below w.heap.size w w' := by
  have hfl := flatR_len L
  obtain ⟨N, hN⟩ : ∃ N, (flat L).length = N := ⟨_, rfl⟩
  rw [hN] at hr hfl
  have e2 : ((N : Int) == 2) = false := by simp; omega
  have e2' : ¬ (N : Int) = 2 := by omega
  have hAc : ∀ j p, L[j]? = some p → ∀ wr, Below w.heap.size w wr → wr.cell? ⟨A, 2 * j, none⟩ = some (strC [p.1]) ∧ wr.cell? ⟨A, 2 * j + 1, none⟩ = some (strC p.2) := by
    intro j p hp wr hb
    obtain ⟨h1, h2⟩ := flat_at L j p hp
    exact ⟨cell_keep hb (hA _ _ (by rw [List.getElem?_map, h1]; rfl)), cell_keep hb (hA _ _ (by rw [List.getElem?_map, h2]; rfl))⟩
  have HA := Lib.hid hAc
  have HV := Lib.hid hv
  have HD := Lib.hid hnd
  clear hA hAc hv hnd
  go_enter Tryz.func163, Tryz.ntmps163
  go_wp2_with fail
  go_loopw [4, 5] (fun av iv wr => B1R w L.length av iv wr) (fun _ iv _ => N - (intOf iv).toNat)
  case atStart => exact ⟨0, by omega, rfl, rfl, Below.refl _ _⟩
  case round =>
    obtain ⟨j, hj, rfl, rfl, hB⟩ := hrel
    by_cases hlt : j < L.length
    · obtain ⟨p, hp⟩ : ∃ p, L[j]? = some p := ⟨_, List.getElem?_eq_getElem hlt⟩
      obtain ⟨g0, g1⟩ := HA.out j p hp wr hB
      obtain ⟨l1, l2⟩ := HV.out p (List.mem_of_getElem? hp)
      unfold strC at g0 g1
      clear hp
      go_wp2_with fail
      refine ⟨⟨j + 1, by omega, by rw [decide_eq_false (by omega)], by go_num, hB⟩, ?_⟩
      simp [intOf]; omega
    · obtain rfl : j = L.length := by omega
      have e0 : decide (L.length = 0) = false := decide_eq_false (by omega)
      rw [e0]
      clear e0
      obtain ⟨i0, hi, hz0, hz1, hz2⟩ := info_parts infoS
      go_wp2_with (at_make; refine wpList_make_own _ rfl _ _ 34 rfl w.heap.size 9 i0 _ 1 Tryz.underlying34 hi hz0 hz1 _ _ _ L.length rfl rfl ?cC ?b2 ?b3 ?b4 ?_)
      case cC => rfl
      case b2 => rw [hz2]; omega
      case b3 => unfold maxLen; omega
      case b4 => exact hB.size
      intro w2 hown hgr
      have HO := Lib.hid hown
      have HG := Lib.hid hgr
      clear hown hgr
      have hst := store105 w2 (.slice (some ⟨wr.heap.size, 0, none⟩) 0 L.length) rfl
      go_wp2_with fail
      have hB2 : Below w.heap.size w w2 := hB.grown HG.out hB.size (fun k hk => by cases hk)
      have hwr := hB.size
      have hw2 := HG.out.size
      have hown2 := HO.out.alloc (.cells (Tryz.zeroCells256.toList.set 256 (.slice (some ⟨wr.heap.size, 0, none⟩) 0 L.length)).toArray 256)
      have hgl : wr.heap.size < w2.heap.size := (HO.out.lt wr.heap.size rfl).2
      have HR := Lib.hid (show Rep w.heap.size w2.heap.size wr.heap.size L.length [] (fun _ => none) (w2.alloc (.cells (Tryz.zeroCells256.toList.set 256 (.slice (some ⟨wr.heap.size, 0, none⟩) 0 L.length)).toArray 256)) from
        ⟨Nat.le_trans hwr hw2, hwr, by omega, ⟨_, Blk.new w2 _ _, by rw [List.length_set, Array.length_toList, zero105, Array.size_replicate], by
          rw [List.getElem?_set_self (by rw [Array.length_toList, zero105, Array.size_replicate]; omega)]; rfl, fun c => .inl ⟨rfl, zero105_at _ _ c.toNat_lt⟩⟩, hown2⟩)
      have hB3 : Below w.heap.size w (w2.alloc (.cells (Tryz.zeroCells256.toList.set 256 (.slice (some ⟨wr.heap.size, 0, none⟩) 0 L.length)).toArray 256)) := hB2.alloc (Nat.le_trans hwr hw2) _
      clear hst HO HG hown2 hB2 hi hz0 hz1 hz2 hB
      generalize w2.heap.size = q at *
      generalize wr.heap.size = G0 at *
      generalize w2.alloc _ = w3 at *
      go_loopw [12] (fun iv wr => B4R w q G0 L iv wr) (fun iv _ => (intOf iv + 2).toNat)
      case atStart =>
        refine ⟨L.length, Nat.le_refl _, by go_num, ?_, hB3⟩
        have e : L.drop L.length = [] := List.drop_length
        rw [e]
        exact HR.out
      case round =>
        obtain ⟨j, hj, rfl, hR, hB⟩ := hrel
        cases j with
        | zero =>
          have e0 : 2 * ((0 : Nat) : Int) - 2 = -2 := by omega
          rw [e0]
          have HQ := Lib.hid hR
          clear hR
          go_wp2_with fail
          go_ret
          exact ⟨_, _, rfl, HQ.out, hB⟩
        | succ k =>
          have e0 : 2 * ((k + 1 : Nat) : Int) - 2 = ((2 * k : Nat) : Int) := by omega
          rw [e0]
          obtain ⟨⟨b, bs⟩, hp⟩ : ∃ p, L[k]? = some p := ⟨_, List.getElem?_eq_getElem (by omega)⟩
          obtain ⟨g0, g1⟩ := HA.out k _ hp wr hB
          obtain ⟨l1, l2⟩ := HV.out _ (List.mem_of_getElem? hp)
          have hdr : L.drop k = (b, bs) :: L.drop (k + 1) := by
            obtain ⟨h1, h2⟩ := List.getElem?_eq_some_iff.1 hp
            rw [List.drop_eq_getElem_cons h1, h2]
          have hnone : tabOf (L.drop (k + 1)) b = none := by
            have hn := HD.out
            rw [← List.take_append_drop k L, List.map_append, List.nodup_append] at hn
            rw [hdr, List.map_cons, List.nodup_cons] at hn
            unfold tabOf
            rw [Option.map_eq_none_iff, List.find?_eq_none]
            intro x hx
            simp only [beq_iff_eq]
            exact fun e => hn.2.1.1 (List.mem_map.2 ⟨x, hx, e⟩)
          obtain ⟨hq0, hG0, hne, ⟨cs, hblk, hlen, h256, hcells⟩, hown⟩ := hR
          have hc1 : cs[b.toNat]? = some (.slice none 0 0) := by
            rcases hcells b with ⟨_, h⟩ | ⟨bs, g, cap', h, _⟩
            · exact h
            · rw [hnone] at h; cases h
          have c1 := (hblk.cell b.toNat).trans hc1
          have c2 := (hblk.cell 256).trans h256
          have z1 := hblk.free b.toNat
          have z2 := hblk.free 256
          have hix : ∀ h, ((⟨#[b]⟩ : ByteArray)[0]'h) = b := fun _ => rfl
          have HT := Lib.hid (show tabOf (L.drop k) = fun c => if b == c then some bs else tabOf (L.drop (k + 1)) c by
            funext c; unfold tabOf; rw [hdr, List.find?_cons]; cases b == c <;> rfl)
          have HK := Lib.hid (show ((L.drop k).map (·.1)).reverse = ((L.drop (k + 1)).map (·.1)).reverse ++ [b] by rw [hdr]; simp)
          generalize hks : ((L.drop (k + 1)).map (·.1)).reverse = ks at *
          have hkl : ks.length + (k + 1) = L.length := by rw [← hks]; simp; omega
          generalize tabOf (L.drop (k + 1)) = T0 at *
          have HC := Lib.hid h256
          have HN := Lib.hid hc1
          have HS := Lib.hid hcells
          have HB := Lib.hid hblk
          have HO := Lib.hid hown
          clear hcells hblk hown hp hnone hc1 h256 hks hdr
          have hb256 : (b.toNat : Int) < 256 := by have := b.toNat_lt; omega
          have hnil := fun (wx : World) => run_eql_nil_slice (P := Tryz.prog) wx 87 5 none 0 0 0 0 Tryz.underlying87
          have hcv1 : (convert 87 9 (.slice (some ⟨wr.heap.size, 0, none⟩) 1 1)).run Tryz.prog (wr.alloc (.cells #[.int .u8 (b.toNat : Int)] 5)) = .ok (.string ⟨#[b]⟩) (wr.alloc (.cells #[.int .u8 (b.toNat : Int)] 5)) :=
            run_convert_bytes_back (P := Tryz.prog) _ 87 9 5 ⟨wr.heap.size, 0, none⟩ 1 [b] Tryz.underlying87 Tryz.underlying5 Tryz.underlying9 (fun j hj => by
              obtain rfl : j = 0 := by simpa using hj
              exact Go.Joins.cell_alloc_mark_at _ _ _ _ _ _ rfl)
          obtain ⟨i0, hi, hz0, hz1, hz2⟩ := info_parts infoS
          have HO2 := Lib.hid (show ∀ X Y, ((wr.alloc X).alloc Y).ownsRow w.heap.size 9 1 (.slice (some ⟨G0, 0, none⟩) ks.length L.length) ks.length (ks.map fun c => strC [c]) from fun X Y => (HO.out.alloc X).alloc Y)
          unfold strC at g0 g1
          go_wp2_with (at_builtin; refine wpList_append_fits _ rfl _ _ 34 rfl w.heap.size 9 i0 1 Tryz.underlying34 hi hz1 G0 ks.length L.length _ rfl (HO2.out _ _) _ 1 1 [.string ⟨#[b]⟩] rfl rfl (new2 _ _ _ _) (by simp [Value.oneCell']) ?b1 ?_)
          case b1 => omega
          intro w5 hown5 hgr5
          have hq5 : Blk w5 q cs 256 := by
            have hlt := HB.out.lt
            exact ((HB.out.alloc _).alloc _).kept (hgr5.block q (by simp; omega) (by simp; exact fun e => hne e))
          have c5 := (hq5.cell 256).trans HC.out
          have z5 := hq5.free 256
          have HQ5 := Lib.hid hq5
          have HW5 := Lib.hid hown5
          have HG5 := Lib.hid hgr5
          clear hq5 hown5 hgr5 hcv1 c1 c2 z1 z2
          go_upto_region 34 with fail
          have hq6 := Blk.set HQ5.out 256 (.slice (some ⟨G0, 0, none⟩) (ks.length + 1) L.length)
          have hw6 : (w5.setCell ⟨q, 256, none⟩ (.slice (some ⟨G0, 0, none⟩) (ks.length + 1) L.length)).ownsRow w.heap.size 9 1 (.slice (some ⟨G0, 0, none⟩) (ks.length + 1) L.length) (ks.length + 1) ((ks ++ [b]).map fun c => strC [c]) := by
            have := HW5.out.kept (w' := w5.setCell ⟨q, 256, none⟩ (.slice (some ⟨G0, 0, none⟩) (ks.length + 1) L.length)) (row := some q) ⟨rfl, rfl, rfl, by simp [World.setCell], fun i _ hi => Below.heap_setCell _ _ _ _ (fun e => hi (by rw [e]))⟩ (Or.inr (by show some G0 ≠ some q; exact fun e => hne (Option.some.inj e).symm))
            rw [List.map_append]; exact this
          have hch : Chg (fun k => k = q ∨ k = G0) wr (w5.setCell ⟨q, 256, none⟩ (.slice (some ⟨G0, 0, none⟩) (ks.length + 1) L.length)) :=
            ((((Chg.refl (fun k => k = q ∨ k = G0) wr).alloc _).alloc _).grown HG5.out (fun k hk _ => Or.inr (Option.some.inj hk).symm)).setCell ⟨q, 256, none⟩ (fun _ => (Or.inl rfl : q = q ∨ q = G0)) _
          have HQ6 := Lib.hid hq6
          have HW6 := Lib.hid hw6
          have HC6 := Lib.hid hch
          clear hq6 hw6 hch HQ5 HW5 HG5 c5 z5 HO2
          generalize w5.setCell ⟨q, 256, none⟩ (.slice (some ⟨G0, 0, none⟩) (ks.length + 1) L.length) = w6 at *
          have hcv2 := Lib.run_convert_string_bytes (P := Tryz.prog) w6 9 87 5 ⟨bs.toArray⟩ Tryz.underlying9 Tryz.underlying87 Tryz.underlying5
          have hq7 : Blk (Lib.bytesWorld w6 5 ⟨bs.toArray⟩) q (cs.set 256 (.slice (some ⟨G0, 0, none⟩) (ks.length + 1) L.length)) 256 := HQ6.out.kept (Lib.bytesWorld_at_old _ _ _ _ HQ6.out.lt)
          have hgc : (cs.set 256 (.slice (some ⟨G0, 0, none⟩) (ks.length + 1) L.length))[b.toNat]? = some (.slice none 0 0) := by
            rw [List.getElem?_set_ne (by omega)]; exact HN.out
          have c7 := (hq7.cell b.toNat).trans hgc
          have z7 := hq7.free b.toNat
          have HQ7 := Lib.hid hq7
          clear hq7 hgc
          go_wp2_with fail
          have hgG : G0 < w6.heap.size := (HW6.out.lt G0 rfl).2
          have hqw : q < w6.heap.size := HQ6.out.lt
          have hs6 : w.heap.size ≤ w6.heap.size := Nat.le_trans hB.size HC6.out.size
          have hby := below_bytes w6 ⟨bs.toArray⟩
          have hch8 : Chg (fun k => k = q ∨ k = G0) wr ((Lib.bytesWorld w6 5 ⟨bs.toArray⟩).setCell ⟨q, b.toNat, none⟩ (.slice (some ⟨w6.heap.size, 0, none⟩) bs.length (grownCap w6 bs.length 0 5))) :=
            (HC6.out.trans (G := fun k => k = q ∨ k = G0) (Chg.of_below hby) (fun _ _ h => h)).setCell ⟨q, b.toNat, none⟩ (fun _ => (Or.inl rfl : q = q ∨ q = G0)) _
          refine ⟨⟨k, by omega, rfl, ⟨hq0, hG0, hne, ⟨_, Blk.set HQ7.out b.toNat (.slice (some ⟨w6.heap.size, 0, none⟩) bs.length (grownCap w6 bs.length 0 5)), by rw [List.length_set, List.length_set]; exact hlen, ?_, ?_⟩, ?_⟩, ?_⟩, by simp [intOf]; omega⟩
          · rw [HK.out, List.getElem?_set_ne (by omega), List.getElem?_set_self (by omega), List.length_append]; rfl
          · intro c
            rw [HT.out]
            by_cases hbc : b = c
            · subst hbc
              refine .inr ⟨bs, w6.heap.size, _, by simp, List.getElem?_set_self (by rw [List.length_set]; omega), hs6, by omega, by omega, ?_, fun j u hj => ?_⟩
              · have := hby.size
                have e := Lib.bytesWorld_size w6 5 ⟨bs.toArray⟩
                simp only [World.setCell, Array.size_modify]; omega
              · have hjl : j < bs.length := by
                  have := (List.getElem?_eq_some_iff.1 hj).1
                  rwa [byteCells_length] at this
                rw [World.cell?_setCell_other _ ⟨q, b.toNat, none⟩ ⟨w6.heap.size, j, none⟩ _ (fun e => by have := congrArg Addr.block e; simp at this; omega),
                  Lib.bytesWorld_cell _ _ _ _ (by rw [Lib.size_eq]; exact hjl), ← hj]
                unfold Lib.byteCells
                rw [List.getElem?_map, List.getD, List.getElem?_eq_getElem hjl]
                rfl
            · have e : (b == c) = false := by simpa using hbc
              simp only [e, Bool.false_eq_true, if_false]
              refine (HS.out c).keep hch8 ?_
              rw [List.getElem?_set_ne (fun e => hbc (UInt8.toNat_inj.1 e)), List.getElem?_set_ne (by have := c.toNat_lt; omega)]
          · rw [HK.out, List.length_append]
            exact (own_below_base HW6.out hby).kept (row := some q) ⟨rfl, rfl, rfl, by simp [World.setCell], fun i _ hi => Below.heap_setCell _ _ _ _ (fun e => hi (by rw [e]))⟩ (Or.inr (by show some G0 ≠ some q; exact fun e => hne (Option.some.inj e).symm))
          · exact hB.trans (hch8.below hB.size (fun i hi => by rcases hi with rfl | rfl <;> assumption))
end Go.Proofs.YtacdbnhnhdlmpaaGreatDoor.W
end
