/- Texts joined: FrO Fin Ffo. -/
import Derived.Test.YtacdbnhnhdlmpaaGreatDoorFU18
import Derived.Test.YtacdbnhnhdlmpaaGreatDoorFU15
import Derived.Test.YtacdbnhnhdlmpaaGreatDoorFU16
set_option maxRecDepth 100000
set_option maxHeartbeats 40000000
set_option linter.unusedVariables false
set_option linter.unusedSimpArgs false
section
namespace Go.Proofs.YtacdbnhnhdlmpaaGreatDoor.W
open Go.RowKit
theorem Rep.low {B q G0 m ks T} {w w' : World} {F : Nat → Prop} (h : Rep B q G0 m ks T w) (hc : Chg F w w') (hF : ∀ k, F k → k < B) : Rep B q G0 m ks T w' := by
  obtain ⟨hq, hG, hne, ⟨cs, hb, hl, h256, hcells⟩, hown⟩ := h
  have nF : ∀ k, B ≤ k → ¬ F k := fun k hk hf => by have := hF k hf; omega
  refine ⟨hq, hG, hne, ⟨cs, hb.chg hc (nF q hq), hl, h256, fun c => ?_⟩, ?_⟩
  · rcases hcells c with ⟨h1, h2⟩ | ⟨bs, g, cap, h1, h2, h3, h4, h5, h6, h7⟩
    · exact .inl ⟨h1, h2⟩
    · refine .inr ⟨bs, g, cap, h1, h2, h3, h4, h5, Nat.lt_of_lt_of_le h6 hc.size, fun j u hj => ?_⟩
      have hb := hc.block g h6 (nF g h3)
      have := h7 j u hj
      simp only [World.cell?] at this ⊢
      rw [hb]; exact this
  · obtain ⟨h1, h2⟩ := hown
    refine ⟨h1, ?_⟩
    rcases h2 with h2 | ⟨g, cap, cur, hv, hb, hh, rest⟩
    · exact .inl h2
    · exact .inr ⟨g, cap, cur, hv, hb, (hc.block g (lt_of_block hh) (nF g hb)).trans hh, rest⟩
set_option maxRecDepth 100000 in
set_option maxHeartbeats 2000000 in
theorem buildOnce_any (r A cap : Nat) (x3 : Value) (L : List (UInt8 × List UInt8)) (w : World) (hL : 2 ≤ L.length) (hL4 : L.length ≤ 4) (hv : ∀ p ∈ L, p.2.length ≠ 1 ∧ p.2.length ≤ 10) (hnd : (L.map (·.1)).Nodup)
    (hr : Blk w r [.int .u32 0, .int .i32 1, .int .u32 0, x3, .slice (some ⟨A, 0, none⟩) (flat L).length cap] 215) (hA : ∀ j u, ((flat L).map strC)[j]? = some u → w.cell? ⟨A, j, none⟩ = some u) :
    Calls Tryz.prog 145 #[.pointer (some ⟨r, 0, none⟩)] w fun e w' => e = .returned (.tuple #[]) ∧ ∃ y3 y4, Blk w' r [.int .u32 0, .int .i32 1, .int .u32 0, y3, y4] 215 ∧
      ∃ q G0, y3 = .iface 257 (.pointer (some ⟨q, 0, none⟩)) ∧ Rep w.heap.size q G0 L.length (L.map (·.1)).reverse (tabOf L) w' ∧ Chg (fun k => k = r) w w' := by
  have HB := Lib.hid (build_any r A cap L w hL hL4 hv hnd (hr.cell 4) hA)
  have HR := Lib.hid hr
  have hrl := hr.lt
  clear hv hnd hr hA
  go_enter Tryz.func145, Tryz.ntmps145
  go_wp2_with fail
  refine HB.out.mono ?_
  rintro e w2 ⟨q, G0, rfl, hrep, hb⟩
  have hr2 := HR.out.below hb
  have c3 := hr2.cell 3
  have z3 := hr2.free 3
  have c4 := hr2.cell 4
  have z4 := hr2.free 4
  have HR2 := Lib.hid hr2
  have HP := Lib.hid hrep
  clear hr2 hrep
  go_wp2_with fail
  go_end0
  have hc : Chg (fun k => k = r) w2 ((w2.setCell ⟨r, 3, none⟩ (.iface 257 (.pointer (some ⟨q, 0, none⟩)))).setCell ⟨r, 4, none⟩ (.slice none 0 0)) :=
    ((Chg.refl (fun k => k = r) w2).setCell ⟨r, 3, none⟩ (fun _ => (rfl : r = r)) _).setCell ⟨r, 4, none⟩ (fun _ => (rfl : r = r)) _
  exact ⟨rfl, _, _, Blk.set (Blk.set HR2.out 3 _) 4 _, q, G0, rfl, HP.out.low hc (fun k hk => by subst hk; exact hrl), (Chg.of_below hb).trans hc (fun _ _ h => h)⟩
set_option maxRecDepth 100000 in
set_option maxHeartbeats 2000000 in
theorem useRep_any (r A cap : Nat) (L : List (UInt8 × List UInt8)) (s : ByteArray) (w : World) (hs : s.size ≤ 1000000) (hL : 2 ≤ L.length) (hL4 : L.length ≤ 4) (hv : ∀ p ∈ L, p.2.length ≠ 1 ∧ p.2.length ≤ 10) (hnd : (L.map (·.1)).Nodup)
    (hT : Tbl (L.map (·.1)).reverse (tabOf L))
    (hr : Blk w r [.int .u32 0, .int .i32 0, .int .u32 0, .nilIface, .slice (some ⟨A, 0, none⟩) (flat L).length cap] 215) (hA : ∀ j u, ((flat L).map strC)[j]? = some u → w.cell? ⟨A, j, none⟩ = some u) (hAr : A ≠ r) :
    Calls Tryz.prog 119 #[.pointer (some ⟨r, 0, none⟩), .string s] w fun e w' => e = .returned (.string ⟨(escL (tabOf L) s.data.toList).toArray⟩) ∧ Chg (fun k => k = r) w w' := by
  have hr1 := Blk.set hr 1 (.int .i32 1)
  have hA1 : ∀ j u, ((flat L).map strC)[j]? = some u → (w.setCell ⟨r, 1, none⟩ (.int .i32 1)).cell? ⟨A, j, none⟩ = some u := fun j u hj => by
    rw [World.cell?_setCell_other _ ⟨r, 1, none⟩ ⟨A, j, none⟩ _ (fun e => hAr (congrArg Addr.block e).symm)]; exact hA j u hj
  have HD := Lib.hid (do_first r .nilIface (.slice (some ⟨A, 0, none⟩) (flat L).length cap) w hr (fun y3 y4 w' => ∃ q G0, y3 = .iface 257 (.pointer (some ⟨q, 0, none⟩)) ∧ Rep (w.setCell ⟨r, 1, none⟩ (.int .i32 1)).heap.size q G0 L.length (L.map (·.1)).reverse (tabOf L) w' ∧ Chg (fun k => k = r) (w.setCell ⟨r, 1, none⟩ (.int .i32 1)) w')
    (fun w1 hw1 => by subst hw1; exact buildOnce_any r A cap .nilIface L _ hL hL4 hv hnd hr1 hA1))
  have HT := Lib.hid hT
  have hrl := hr.lt
  have hmf : ∀ (fn : Fn) (first cap : Array Value) (w : World), (Instr.makeFunc fn first cap).run Tryz.prog w = .ok (.func fn first cap) w := fun _ _ _ _ => rfl
  have hch1 : Chg (fun k => k = r) w (w.setCell ⟨r, 1, none⟩ (.int .i32 1)) := (Chg.refl (fun k => k = r) w).setCell ⟨r, 1, none⟩ (fun _ => (rfl : r = r)) _
  clear hv hnd hr hA hr1 hA1 hT
  go_enter Tryz.func119, Tryz.ntmps119
  go_wp2_with fail
  refine HD.out.mono ?_
  rintro e w2 ⟨rfl, w3, y3, y4, hb, ⟨q, G0, rfl, hrep, hch⟩, rfl⟩
  have hc4 : Chg (fun k => k = r) w3 ((w3.drew.setCell ⟨r, 0, none⟩ (.int .u32 1)).setCell ⟨r, 1, none⟩ (.int .i32 0)) :=
    (((Chg.refl (fun k => k = r) w3).drew).setCell ⟨r, 0, none⟩ (fun _ => (rfl : r = r)) _).setCell ⟨r, 1, none⟩ (fun _ => (rfl : r = r)) _
  have hrep4 := hrep.low hc4 (fun k hk => by subst hk; simp only [World.setCell, Array.size_modify]; exact hrl)
  have hb4 : Blk ((w3.drew.setCell ⟨r, 0, none⟩ (.int .u32 1)).setCell ⟨r, 1, none⟩ (.int .i32 0)) r [.int .u32 1, .int .i32 0, .int .u32 0, .iface 257 (.pointer (some ⟨q, 0, none⟩)), y4] 215 :=
    Blk.set (Blk.set (w := w3.drew) hb 0 (.int .u32 1)) 1 (.int .i32 0)
  have hch4 := (hch1.trans hch (fun _ _ h => h)).trans hc4 (fun _ _ h => h)
  have c3 := hb4.cell 3
  have HRC := Lib.hid (RepC.of hrep4 (by simp; omega))
  clear hb hrep hch hc4 hrep4 hb4 HD
  generalize (w3.drew.setCell ⟨r, 0, none⟩ (.int .u32 1)).setCell ⟨r, 1, none⟩ (.int .i32 0) = w4 at *
  go_wp2_with fail
  refine (replace_any q G0 _ _ _ s w4 hs (by simp; omega) HRC.out HT.out).mono ?_
  rintro e w5 ⟨rfl, hb5⟩
  go_wp2_with fail
  go_ret
  exact ⟨rfl, hch4.trans (G := fun k => k = r) (Chg.of_below hb5) (fun _ _ h => h)⟩
theorem rep_pair (L : List (UInt8 × List UInt8)) (hL : 2 ≤ L.length) (hL4 : L.length ≤ 4) (hv : ∀ p ∈ L, p.2.length ≠ 1 ∧ p.2.length ≤ 10) (hnd : (L.map (·.1)).Nodup) (hT : Tbl (L.map (·.1)).reverse (tabOf L)) (B A : Nat) (w : World)
    (hA : ∀ j u, ((flat L).map strC)[j]? = some u → w.cell? ⟨A, j, none⟩ = some u) (hB : B ≤ w.heap.size) :
    Calls Tryz.prog 118 #[.slice (some ⟨A, 0, none⟩) (flat L).length (flat L).length] w fun e w' => ∃ r, e = .returned (.pointer (some ⟨r, 0, none⟩)) ∧ Below B w w' ∧
      ∀ s : ByteArray, s.size ≤ 1000000 → Calls Tryz.prog 119 #[.pointer (some ⟨r, 0, none⟩), .string s] w' fun e w2 => e = .returned (.string ⟨(escL (tabOf L) s.data.toList).toArray⟩) ∧ Below B w' w2 := by
  have hf := flatR_len L
  refine (newRep_any B A (flat L) w (by omega) (by omega) (by omega) hA hB).mono ?_
  rintro e w' ⟨r, v, rfl, hBr, hblk, hown, hb⟩
  refine ⟨r, rfl, hb, fun s hs => ?_⟩
  have hvr : v.ownBlock ≠ some r := Lib.ownBlock_ne hown hblk (by decide)
  obtain ⟨A2, cap, rfl⟩ : ∃ A2 cap, v = .slice (some ⟨A2, 0, none⟩) (flat L).length cap := by
    rcases hown.2 with ⟨_, h⟩ | ⟨g, cap, cur, hv, _⟩
    · omega
    · exact ⟨g, cap, hv⟩
  have hcell : ∀ j u, ((flat L).map strC)[j]? = some u → w'.cell? ⟨A2, j, none⟩ = some u := fun j u hj => by
    have := hown.cells (g := A2) rfl j u hj
    rwa [show (⟨A2, 0, none⟩ : Addr).add j = ⟨A2, j, none⟩ by unfold Addr.add; split <;> simp_all] at this
  refine (useRep_any r A2 cap L s w' hs hL hL4 hv hnd hT hblk hcell (fun e => hvr (by rw [e]; rfl))).mono ?_
  rintro e w2 ⟨rfl, hc⟩
  exact ⟨rfl, hc.below (Nat.le_trans hB hb.size) (fun k hk => by subst hk; exact hBr)⟩
def lisC : List (UInt8 × List UInt8) := [(10, []), (13, [])]
theorem tblC : Tbl (lisC.map (·.1)).reverse (tabOf lisC) := by
  refine ⟨by decide, fun c => ?_, fun c bs h => ?_⟩
  · have : tabOf lisC c = (lisC.find? (fun p => p.1 == c)).map (·.2) := rfl
    rw [this, Option.isSome_map, List.find?_isSome]
    simp only [List.mem_reverse, List.mem_map, beq_iff_eq]
  · obtain ⟨p, hp, rfl⟩ := Option.map_eq_some_iff.1 h
    have e : ∀ p ∈ lisC, p.2 = [] := by decide
    exact e p (List.mem_of_find?_eq_some hp)
theorem cellsC (w : World) : ∀ j u, ((flat lisC).map strC)[j]? = some u → (w.alloc (.cells ((flat lisC).map strC).toArray 9)).cell? ⟨w.heap.size, j, none⟩ = some u := fun j u hj => by
  rw [Go.Joins.cell_alloc_mark_at _ _ _ _ _ _ rfl]; simpa using hj
theorem escC : ∀ l : List UInt8, escL (tabOf lisC) l = stripL l
  | [] => rfl
  | c :: l => by
    have ih := escC l
    unfold escL stripL at ih ⊢
    rw [List.flatMap_cons, ih]
    by_cases h1 : c = 10
    · subst h1; rfl
    · by_cases h2 : c = 13
      · subst h2; rfl
      · have e1 : tabOf lisC c = none := by
          show (lisC.find? (fun p => p.1 == c)).map (·.2) = none
          rw [List.find?_eq_none.2]
          · rfl
          · intro p hp
            simp only [lisC, List.mem_cons, List.not_mem_nil, or_false] at hp
            rcases hp with rfl | rfl
            · simpa using fun e => h1 e.symm
            · simpa using fun e => h2 e.symm
        rw [List.filter_cons_of_pos (by simp [h1, h2])]
        unfold esc1
        rw [e1]; rfl
section
variable {B : Nat} {w0 w : World} {R : Nat} {hd : Int} {l : List Ob} {O : Ob} {k : Nat} {v : List UInt8}
set_option maxRecDepth 100000 in
set_option maxHeartbeats 4000000 in
theorem clean_any (h : All B w0 l w) (hO : O ∈ l) (hF : FdOk B w0 R O hd k v) (hk : k = 1 ∨ k = 2) (hL : ∀ wx, Below B w0 wx → Laid wx) (x : List UInt8) (hx : x.length ≤ 10000) :
    Calls Tryz.prog 63 #[.pointer (some ⟨R, 0, none⟩), .int .i64 hd, .string ⟨x.toArray⟩] w fun e w' => e = .returned (.string ⟨(cleanL (decide (k = 2)) x).toArray⟩) ∧ Below w.heap.size w w' := by
  have HRp := Lib.hid (repair_any x w (by omega) (hL w h.below))
  have HK := Lib.hid (fun wx (hb : Below w.heap.size w wx) => hF.kindA hO (h.still hb))
  have hfl := fix_len x
  rw [fix_rfix] at HRp hfl
  clear h hO hF hL
  rcases hk with rfl | rfl
  · have e1 : cleanL (decide (1 = 2)) x = stripL (rfix x) := rfl
    rw [e1, ← escC]
    generalize rfix x = y at *
    have HP := Lib.hid (fun w1 => rep_pair lisC (by decide) (by decide) (by decide) (by decide) tblC w1.heap.size w1.heap.size _ (cellsC w1) (by simp))
    have hy : (⟨y.toArray⟩ : ByteArray).size ≤ 1000000 := by show y.toArray.size ≤ _; simp; omega
    go_enter Tryz.func63, Tryz.ntmps63
    go_wp2_with fail
    refine HRp.out.mono ?_
    rintro e w1 ⟨rfl, hb1⟩
    go_wp2_with fail
    refine (HK.out _ hb1).mono ?_
    rintro e w2 ⟨rfl, hb2⟩
    have hb2' := bthen hb1 hb2
    have hbl := (Below.refl w2.heap.size w2).alloc (Nat.le_refl _) (.cells ((flat lisC).map strC).toArray 9)
    go_wp2_with fail
    refine (HP.out w2).mono ?_
    rintro e w3 ⟨r, rfl, hb3, hrep⟩
    have HR := Lib.hid (hrep ⟨y.toArray⟩ hy)
    clear hrep
    go_wp2_with fail
    refine HR.out.mono ?_
    rintro e w4 ⟨rfl, hb4⟩
    go_wp2_with fail
    go_ret
    exact ⟨rfl, bthen hb2' ((hbl.trans hb3).trans hb4)⟩
  · have e1 : cleanL (decide (2 = 2)) x = rfix x := rfl
    rw [e1]
    generalize rfix x = y at *
    go_enter Tryz.func63, Tryz.ntmps63
    go_wp2_with fail
    refine HRp.out.mono ?_
    rintro e w1 ⟨rfl, hb1⟩
    go_wp2_with fail
    refine (HK.out _ hb1).mono ?_
    rintro e w2 ⟨rfl, hb2⟩
    go_wp2_with fail
    go_ret
    exact ⟨rfl, bthen hb1 hb2⟩
end
structure FOk (N : Nat) (F : FT) : Prop where
  vd : Vd F.val
  le : F.st ≤ F.en
  in_ : F.en ≤ nL F.val
  n : F.val.length ≤ N
  few : F.undo.length + F.redo.length ≤ 100
theorem clean_len (area : Bool) (x : List UInt8) : (cleanL area x).length ≤ 4 * x.length := by
  have := fix_len x
  rw [fix_rfix] at this
  unfold cleanL
  split
  · exact this
  · exact Nat.le_trans (strip_len _) this
section
variable {B : Nat} {w0 w : World} {Q R N : Nat} {foc hd : Int} {l : List Ob} {O : Ob} {k : Nat} {v : List UInt8} {F : FT}
set_option maxRecDepth 100000 in
set_option maxHeartbeats 4000000 in
theorem insert_one (h : FsAt B w0 Q foc hd v l F w) (hO : O ∈ l) (hF : FdOk B w0 R O hd k v) (hk : k = 1 ∨ k = 2) (hv : v.length ≤ 10000000) (hL : ∀ wx, Below B w0 wx → Laid wx) (hok : FOk N F) (hN : N ≤ 900000) (x : List UInt8) (hx : x.length ≤ 10000) :
    Calls Tryz.prog 17 #[.pointer (some ⟨Q, 0, none⟩), .pointer (some ⟨R, 0, none⟩), .int .i64 hd, .string ⟨x.toArray⟩] w fun e w' => e = .returned (.int .i64 0) ∧ FsAt B w0 Q foc hd v l (F.ins (cleanL (decide (k = 2)) x)) w' := by
  have hcl := clean_len (decide (k = 2)) x
  have hn := hok.n
  have hle := hok.le
  have hin := hok.in_
  have hfew := hok.few
  have HS := Lib.hid (selection_one h hO hF hk (by omega) hin (by omega))
  have HC := Lib.hid (fun wx (hb : Below w.heap.size w wx) => clean_any (h.rest.still hb) hO hF hk hL x hx)
  have HR := Lib.hid (fun wx (hb : Below w.heap.size w wx) => replace_one (h.still hb) hO hF hk hv hL hok.vd (by omega) F.st F.en (cleanL (decide (k = 2)) x) F.st F.en (.inl ⟨hle, hin⟩) (by omega))
  clear h hF hO hok
  unfold FT.ins
  generalize cleanL (decide (k = 2)) x = y at *
  go_enter Tryz.func17, Tryz.ntmps17
  go_wp2_with fail
  refine HS.out.mono ?_
  rintro e w1 ⟨rfl, hb1⟩
  go_wp2_with fail
  refine (HC.out _ hb1).mono ?_
  rintro e w2 ⟨rfl, hb2⟩
  go_wp2_with fail
  refine (HR.out _ (bthen hb1 hb2)).mono ?_
  rintro e w3 ⟨rfl, h3⟩
  have H3 := Lib.hid h3
  clear h3
  go_wp2_with fail
  go_ret
  exact ⟨rfl, H3.out⟩
set_option maxRecDepth 100000 in
set_option maxHeartbeats 4000000 in
theorem delete_one (h : FsAt B w0 Q foc hd v l F w) (hO : O ∈ l) (hF : FdOk B w0 R O hd k v) (hk : k = 1 ∨ k = 2) (hv : v.length ≤ 10000000) (hL : ∀ wx, Below B w0 wx → Laid wx) (hok : FOk N F) (hN : N ≤ 900000) (fw : Bool) :
    Calls Tryz.prog 20 #[.pointer (some ⟨Q, 0, none⟩), .pointer (some ⟨R, 0, none⟩), .int .i64 hd, .bool fw] w fun e w' => e = .returned (.int .i64 0) ∧ FsAt B w0 Q foc hd v l (F.del fw) w' := by
  have hn := hok.n
  have hle := hok.le
  have hin := hok.in_
  have hfew := hok.few
  have hnl := nL_le F.val
  have HS := Lib.hid (selection_one h hO hF hk (by omega) hin (by omega))
  have HR := Lib.hid (fun (a b : Nat) (hab : (a ≤ b ∧ b ≤ nL F.val) ∨ (a = nL F.val ∧ b = nL F.val + 1 ∧ ([] : List UInt8) = [])) wx (hb : Below w.heap.size w wx) => replace_one (h.still hb) hO hF hk hv hL hok.vd (by omega) a b [] F.st F.en hab (by simp; omega))
  clear h hF hO hok
  have H3e : (⟨([] : List UInt8).toArray⟩ : ByteArray) = ⟨#[]⟩ := rfl
  rw [H3e] at HR
  unfold FT.del
  by_cases he : F.st = F.en
  · rw [if_pos he]
    rw [he] at HS HR ⊢
    cases fw with
    | true =>
      rw [if_pos rfl]
      go_enter Tryz.func20, Tryz.ntmps20
      go_wp2_with fail
      refine HS.out.mono ?_
      rintro e w1 ⟨rfl, hb1⟩
      go_wp2_with fail
      refine (HR.out F.en (F.en + 1) (by by_cases q : F.en < nL F.val; exact Or.inl ⟨by omega, by omega⟩; exact Or.inr ⟨by omega, by omega, trivial⟩) _ hb1).mono ?_
      rintro e w3 ⟨rfl, h3⟩
      have H3 := Lib.hid h3
      clear h3
      go_wp2_with fail
      go_ret
      exact ⟨rfl, H3.out⟩
    | false =>
      rw [if_neg (by simp)]
      have hmx : max ((F.en : Int) - 1) 0 = ((F.en - 1 : Nat) : Int) := by omega
      go_enter Tryz.func20, Tryz.ntmps20
      go_wp2_with fail
      refine HS.out.mono ?_
      rintro e w1 ⟨rfl, hb1⟩
      go_wp2_with fail
      refine (HR.out (F.en - 1) F.en (by omega) _ hb1).mono ?_
      rintro e w3 ⟨rfl, h3⟩
      have H3 := Lib.hid h3
      clear h3
      go_wp2_with fail
      go_ret
      exact ⟨rfl, H3.out⟩
  · rw [if_neg he]
    have hef : ((F.st : Int) == (F.en : Int)) = false := by simp; omega
    go_enter Tryz.func20, Tryz.ntmps20
    go_wp2_with fail
    refine HS.out.mono ?_
    rintro e w1 ⟨rfl, hb1⟩
    clear he
    go_wp2_with fail
    refine (HR.out F.st F.en (by omega) _ hb1).mono ?_
    rintro e w3 ⟨rfl, h3⟩
    have H3 := Lib.hid h3
    clear h3
    go_wp2_with fail
    go_ret
    exact ⟨rfl, H3.out⟩
end
section
variable {B : Nat} {w0 w : World} {Q R N : Nat} {foc hd : Int} {l : List Ob} {O : Ob} {k : Nat} {v : List UInt8} {F : FT}
def FdTo (B : Nat) (w0 : World) (Q : Nat) (foc hd : Int) (l : List Ob) (F : FT) (w : World) (e : Ending) : Prop :=
  (F.undo = [] ∧ F.redo = [] ∧ e = .returned (.pointer none)) ∨ ∃ g ua uc ra rc, e = .returned (.pointer (some ⟨g, 0, none⟩)) ∧ w.cell? ⟨g, 7, none⟩ = some (.slice ua F.undo.length uc) ∧ w.cell? ⟨g, 8, none⟩ = some (.slice ra F.redo.length rc) ∧
    ((F.undo ≠ [] ∨ F.redo ≠ []) → ∃ cap tc ck u r, All B w0 (oneL Q g cap foc ⟨hd, true, tc, ck, F, u, r⟩ ++ (edO u r F ++ l)) w)
theorem find_one (h : FsAt B w0 Q foc hd v l F w) : Calls Tryz.prog 58 #[.pointer (some ⟨Q, 0, none⟩), .int .i64 hd] w fun e w' => w = w' ∧ FdTo B w0 Q foc hd l F w e := by
  obtain ⟨fa, X, u, r, h1, h2, h3, h4, h5⟩ := h
  refine (find_any h5 hd (by have := h1.one.len; omega)).mono ?_
  rintro e w' ⟨rfl, rfl⟩
  refine ⟨rfl, ?_⟩
  cases hf : fixX X hd with
  | none =>
    refine .inl ?_
    have hft : ftX X hd v = FT.of v := by unfold ftX; rw [(fix_none hf).2]; rfl
    rw [← h2, hft]
    exact ⟨rfl, rfl, rfl⟩
  | some i =>
    have hR := h5
    obtain ⟨ua, uc, hu, _⟩ : ∃ a cap, u = .slice a F.undo.length cap ∧ F.undo.length ≤ cap := (show Ro w 126 5 u F.undo.length (rows encE F.undo) from h5.P (ro 126 5 u F.undo.length (rows encE F.undo)) (by simp [edO])).shape
    obtain ⟨ra, rc, hr, _⟩ : ∃ a cap, r = .slice a F.redo.length cap ∧ F.redo.length ≤ cap := (show Ro w 126 5 r F.redo.length (rows encE F.redo) from h5.P (ro 126 5 r F.redo.length (rows encE F.redo)) (by simp [edO])).shape
    obtain ⟨x, rfl, hx⟩ : ∃ x, X = [x] ∧ x.node = hd := by
      rcases h1.one with rfl | h
      · have := (fix_some hf).1; simp at this
      · exact h
    obtain rfl : i = 0 := by have := (fix_some hf).1; simp at this; exact this
    have hg : getX [x] hd = x := (Option.some.inj (fix_some hf).2.1).symm
    obtain ⟨g, cap, rfl, he, hc⟩ := get_cell h5 hf
    have c7 := (hc 7 (by omega)).1
    have c8 := (hc 8 (by omega)).1
    rw [hg] at c7 c8 h3 h4
    rw [show (fxC x)[7]? = some x.uv from rfl, h3, hu] at c7
    rw [show (fxC x)[8]? = some x.rv from rfl, h4, hr] at c8
    refine .inr ⟨g, ua, uc, ra, rc, rfl, by simpa using c7, by simpa using c8, fun hne => ?_⟩
    have hd' : x.dirty = true := by
      cases e : x.dirty with
      | true => rfl
      | false =>
        have hft : ftX [x] hd v = FT.of v := by unfold ftX; rw [hg, e]; rfl
        rw [hft] at h2
        rw [← h2] at hne
        rcases hne with h | h <;> exact absurd rfl h
    have ht : x.t = F := by rw [← h2]; unfold ftX; rw [hg, hd']; rfl
    obtain ⟨xn, xd, xt, xc, xF, xu, xr⟩ := x
    simp only at hx hd' ht h3 h4
    subst hx hd' ht h3 h4
    exact ⟨cap, xt, xc, xu, xr, by rw [oneL_fs]; exact h5⟩
set_option maxRecDepth 100000 in
set_option maxHeartbeats 4000000 in
theorem undo_no (h : FsAt B w0 Q foc hd v l F w) (hO : O ∈ l) (hF : FdOk B w0 R O hd k v) (hk : k = 1 ∨ k = 2) (hu : F.undo = []) :
    Calls Tryz.prog 21 #[.pointer (some ⟨Q, 0, none⟩), .pointer (some ⟨R, 0, none⟩), .int .i64 hd] w fun e w' => e = .returned (.tuple #[.bool false, .int .i64 0]) ∧ Below w.heap.size w w' := by
  have HK := Lib.hid (hF.kindA hO h.rest)
  have HW := Lib.hid (written_yes hk)
  have HFd := Lib.hid (fun wx (hb : Below w.heap.size w wx) => find_one (h.still hb))
  clear h hF hO
  go_enter Tryz.func21, Tryz.ntmps21
  go_wp2_with fail
  refine HK.out.mono ?_
  rintro e w1 ⟨rfl, hb1⟩
  go_wp2_with fail
  refine (HW.out _).mono ?_
  rintro e w2 ⟨rfl, hw⟩
  subst hw
  go_wp2_with fail
  refine (HFd.out _ hb1).mono ?_
  rintro e w2 ⟨rfl, ⟨_, _, rfl⟩ | ⟨g, ua, uc, ra, rc, rfl, c7, c8, _⟩⟩
  · go_wp2_with fail
    go_ret2
    exact ⟨rfl, hb1⟩
  · rw [hu, List.length_nil] at c7
    go_wp2_with fail
    go_ret2
    exact ⟨rfl, hb1⟩
set_option maxRecDepth 100000 in
set_option maxHeartbeats 4000000 in
theorem redo_no (h : FsAt B w0 Q foc hd v l F w) (hO : O ∈ l) (hF : FdOk B w0 R O hd k v) (hk : k = 1 ∨ k = 2) (hu : F.redo = []) :
    Calls Tryz.prog 22 #[.pointer (some ⟨Q, 0, none⟩), .pointer (some ⟨R, 0, none⟩), .int .i64 hd] w fun e w' => e = .returned (.tuple #[.bool false, .int .i64 0]) ∧ Below w.heap.size w w' := by
  have HK := Lib.hid (hF.kindA hO h.rest)
  have HW := Lib.hid (written_yes hk)
  have HFd := Lib.hid (fun wx (hb : Below w.heap.size w wx) => find_one (h.still hb))
  clear h hF hO
  go_enter Tryz.func22, Tryz.ntmps22
  go_wp2_with fail
  refine HK.out.mono ?_
  rintro e w1 ⟨rfl, hb1⟩
  go_wp2_with fail
  refine (HW.out _).mono ?_
  rintro e w2 ⟨rfl, hw⟩
  subst hw
  go_wp2_with fail
  refine (HFd.out _ hb1).mono ?_
  rintro e w2 ⟨rfl, ⟨_, _, rfl⟩ | ⟨g, ua, uc, ra, rc, rfl, c7, c8, _⟩⟩
  · go_wp2_with fail
    go_ret2
    exact ⟨rfl, hb1⟩
  · rw [hu, List.length_nil] at c8
    go_wp2_with fail
    go_ret2
    exact ⟨rfl, hb1⟩
end
end Go.Proofs.YtacdbnhnhdlmpaaGreatDoor.W
end
