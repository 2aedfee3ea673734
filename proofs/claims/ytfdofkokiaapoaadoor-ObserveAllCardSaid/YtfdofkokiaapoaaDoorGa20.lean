/- Texts joined: ZoG AllO LaidW. -/
import Derived.Test.YtfdofkokiaapoaaDoorGa19
import Derived.Test.YtfdofkokiaapoaaDoorGa15
import Derived.Test.YtfdofkokiaapoaaDoorGa16
import Derived.Test.YtfdofkokiaapoaaDoorGa17
import Derived.Test.YtfdofkokiaapoaaDoorGa10
import Derived.Test.YtfdofkokiaapoaaDoorCards
import Derived.Test.YtfdofkokiaapoaaDoorTie
import Derived.Shelf.Vars
import Derived.Lib.LaidU8T
import Derived.Shelf.Unicode.ValidAny
import Derived.Lib.LaidIn
import Derived.Deep.DeepHandedRow
import Derived.Deep.DeepWitnessRowRef
import Derived.SizedLaws
section
/- awake returns true. -/
namespace Go.Proofs.YtfdofkokiaapoaaDoor.W.Z
open Go.RowKit
set_option linter.unusedVariables false

/-- a new State -/
theorem st_new {B : Nat} {w0 w : World} {l : List Ob} (h : All B w0 l w) (g : Nat) (hg : w.heap.size = g) : All B w0 (stL g (.slice none 0 0) 0 [] ++ l) (w.alloc (.cells #[.slice none 0 0, .slice none 0 0, .int .i64 0] 33)) :=
  ((h.nil 101 4).newBkA g hg [.slice none 0 0, .slice none 0 0, .int .i64 0] 33)
/-- a slice of sizes is one of some -/
theorem st_slice {B : Nat} {w0 w : World} {g : Nat} {zv : Value} {nx : Int} {z : Zv} {zs : List Zv} {l : List Ob} (h : All B w0 (stL g zv nx (z :: zs) ++ l) w) : ∃ zg zc, zv = .slice (some ⟨zg, 0, none⟩) (z :: zs).length zc := by
  have hr : Own _ _ _ _ _ _ := h.tail.head
  obtain ⟨zg, zc, h1, _⟩ := own_some hr (by simp)
  exact ⟨zg, zc, h1⟩
theorem map_one {zs' : List Zv} {z : Zr} (h : zs'.map (·.1) = [z]) : ∃ a b, zs' = [(z, a, b)] := by
  match zs', h with
  | [(u, a, b)], h =>
    simp at h
    subst h
    exact ⟨a, b, rfl⟩

set_option maxRecDepth 100000 in
set_option maxHeartbeats 1000000 in
theorem awake_any (w : World) : Calls Tryd.prog 6 #[] w fun e w' => e = .returned (.bool true) ∧ Below w.heap.size w w' := by
  have h0 := st_new (All.start w) w.heap.size rfl
  obtain ⟨g, hg⟩ : ∃ g, w.heap.size = g := ⟨_, rfl⟩
  have HC := Lib.hid (create_any h0 4 (by omega) (by omega) (by simp))
  rw [hg] at HC
  clear h0
  go_enter Tryd.func6, Tryd.ntmps6
  go_wp2_with fail
  refine HC.out.mono ?_
  rintro e w1 ⟨zv, rfl, hA1⟩
  obtain ⟨zg, zc, rfl⟩ := st_slice hA1
  have HO := Lib.hid (observe_new (z1 := []) (z2 := []) (z := ⟨1, 4, [], []⟩) hA1 (by simp) (by simp) 9 (by simp) rfl)
  clear hA1 HC
  go_wp2_with fail
  refine HO.out.mono ?_
  rintro e w2 ⟨a2, rfl, hA2⟩
  have hA3 := (hA2.newSlA w2.heap.size rfl 67 3 1 (rows encZ [(9, 3, 5)]) rfl (by omega)).perm List.perm_middle.symm
  have HM := Lib.hid (measure_any (lv := .slice (some ⟨w2.heap.size, 0, none⟩) 1 1) (L := [(9, 3, 5)]) hA3 rfl (by simp) (by simp [zl]) (by simp) (by simp [Zr.watch]))
  clear hA2 hA3 HO
  go_wp2_with fail
  refine HM.out.mono ?_
  rintro e w3 ⟨zs', rfl, hm, hA4⟩
  obtain ⟨a4, b4, rfl⟩ := map_one (z := ⟨1, 4, [(9, 3, 5)], [(9, 3, 5)]⟩) (hm.trans (by simp [Zr.meas, Zr.watch, nowOf, stepE, putEn]))
  have HD := Lib.hid (deliver_some (z1 := []) (z2 := []) (z := ⟨1, 4, [(9, 3, 5)], [(9, 3, 5)]⟩) hA4 (by simp) (by simp) (by simp) (by simp [nextOf, nextStep]))
  clear hm hA4 HM
  go_wp2_with fail
  refine HD.out.mono ?_
  rintro e w4 ⟨rfl, hA5⟩
  have ho : Own _ _ _ _ _ _ := hA5.P (zl b4 [(9, 3, 5)]) (by simp)
  obtain ⟨bg, bc, rfl, ⟨e0, e1, e2⟩, ef, elt⟩ := z_cells (k := 0) ho rfl
  have hB := Lib.hid hA5.below
  clear HD hA5 ho
  simp only [Nat.zero_mul] at e0 e1 e2
  have hbn : bg ≠ w4.heap.size := by omega
  go_wp2_with fail
  go_ret
  refine ⟨rfl, ?_⟩
  have h := hB.out
  subst hg
  exact h.alloc h.size _
end Go.Proofs.YtfdofkokiaapoaaDoor.W.Z
end
section
/- The law ObserveAll. -/
namespace Go.Proofs.YtfdofkokiaapoaaDoor.W
open Go.RowKit
set_option linter.unusedVariables false
set_option linter.unusedSimpArgs false

/-- the watches: of the document and of its nodes -/
def wsAt (S : Tr) (l : List Int) : List Wt := full (S.hd 0) :: l.map full
/-- the objects of the law -/
def stO (g zg zc : Nat) (z : Ov) (a b : Value) : List Ob := stM g (.slice (some ⟨zg, 0, none⟩) 1 zc) 1 [(z, a, b)]
def L1R (w : World) (g zg zc r9 R : Nat) (S : Tr) (sv fv lv : Value) (N : Nat) (iv : Value) (wr : World) : Prop :=
  ∃ (i : Nat) (z : Ov) (a : Value) (t : Int), i ≤ N ∧ iv = .int .i64 (i : Int) ∧ z.id = 1 ∧ z.rs = [] ∧ z.ws = wsAt S ((hds S N).take i) ∧
    All w.heap.size w (stO g zg zc z a (.slice none 0 0) ++ bk r9 (encW (full t)) 44 :: [trO R S sv fv, gl lv (hds S N)]) wr
def L2R (w : World) (g zg zc R : Nat) (S : Tr) (sv fv lv : Value) (N n : Nat) (wv iv : Value) (wr : World) : Prop :=
  ∃ (i : Nat) (S' : Tr) (K' : Nat → List Nat) (d' : Nat → Nat) (z : Ov) (a b wv2 : Value) (rec : List Rc), wv2 = wv ∧ i ≤ n ∧ iv = .int .i64 (i : Int) ∧ z.id = 1 ∧ z.rs = rec ∧ z.ws = wsAt S (hds S N) ∧ rec.length ≤ 2 * i ∧ Dc S' K' d' N ∧ S'.b = S.b ∧ S'.s = S.s ∧
    All w.heap.size w (trO R S' sv fv :: gl lv (hds S N) :: (stO g zg zc z a b ++ [rl wv2 rec])) wr

set_option maxRecDepth 100000 in
set_option maxHeartbeats 8000000 in
theorem all_law {w : World} (hT : Laid w) (ka : Option Addr) (kn kc : Nat) (fk : Nat → Int) (hk : InB w ka kn fk) (hk1 : ∀ j, 0 ≤ fk j ∧ fk j ≤ 255) (A : Option Addr) (n c : Nat) (f : Nat → Opn) (h : InO w A n f) (ho : ∀ j, (f j).ok) (hkn : kn ≤ 9223372036854775807) (hn : n ≤ 9223372036854775807) :
    Calls Tryd.prog 3 #[.slice ka kn kc, .slice A n c] w fun e w' => e = .returned (.bool true) ∧ Below w.heap.size w w' := by
  have HT := Lib.hid hT
  have HK := Lib.hid hk
  have HK1 := Lib.hid hk1
  have H := Lib.hid h
  have HO := Lib.hid ho
  clear hT hk hk1 h ho
  go_enter Tryd.func3, Tryd.ntmps3
  go_wp2_with fail
  refine (Z.awake_any w).mono ?_
  rintro e w1 ⟨rfl, hb1⟩
  have h1 : InO w1 A n f := fun hn0 => by
    obtain ⟨b, off, e, hlt, hc⟩ := H.out hn0
    refine ⟨b, off, e, Nat.lt_of_lt_of_le hlt hb1.size, fun j hj => ?_⟩
    obtain ⟨q0, q1, q2, q3, q4⟩ := hc j hj
    exact ⟨cell_keep hb1 q0, cell_keep hb1 q1, cell_keep hb1 q2, cell_keep hb1 q3, cell_keep hb1 q4⟩
  go_wp2_with fail
  refine (few_any ka kn kc A n c f h1 hkn hn).mono ?_
  rintro e w2 ⟨bf, rfl, hfew, hw⟩
  rw [hw]
  clear hw h1
  cases bf
  · go_wp2_with fail
    refine (Z.awake_any w1).mono ?_
    rintro e w3 ⟨rfl, hb3⟩
    go_wp2_with fail
    go_ret
    exact ⟨rfl, bthen hb1 hb3⟩
  · obtain ⟨hk20, hn60, hs20⟩ := hfew rfl
    clear hfew
    have HDoc := Lib.hid (document_any (HT.out.below hb1) ka kn kc ((List.range kn).map fk) (fun i hi => by
      obtain ⟨b, off, e, hlt, hc⟩ := HK.out (by omega)
      refine ⟨b, off, e, ?_, ?_⟩
      · rw [List.getElem?_map, List.getElem?_range hi]
        exact cell_keep hb1 (hc i hi)
      · rw [List.getElem?_map, List.getElem?_range hi]
        exact HK1.out i) (by omega))
    have HA0 := Lib.hid ((All.start w).still hb1)
    clear hb1
    go_wp2_with fail
    refine HDoc.out.mono ?_
    rintro e w3 ⟨R, S, K, d, sv, fv, lv, rfl, hD, hA⟩
    have hlo : Own w3 3 1 lv (hds S kn).length _ := hA.tail.head
    rw [hds_len] at hlo
    obtain ⟨la, lc, rfl⟩ := own_shape hlo
    clear hlo
    have hA3 : All w.heap.size w [trO R S sv fv, gl (.slice la kn lc) (hds S kn)] w3 := HA0.out.after hA
    have hA4 := (hA3.nil 79 4).newBkA w3.heap.size rfl [.slice none 0 0, .slice none 0 0, .int .i64 0] 33
    have HD := Lib.hid hD
    have HCr := Lib.hid (create_ob (g := w3.heap.size) (zv := .slice none 0 0) (nx := 0) (zs := []) (l := [trO R S sv fv, gl (.slice la kn lc) (hds S kn)]) (show All w.heap.size w (stM _ _ _ _ ++ _) _ from hA4) 7 (by omega) (by omega) (by simp))
    clear hA hA3 hA4 HDoc HA0 hD
    generalize hg : w3.heap.size = g at *
    go_wp2_with fail
    refine HCr.out.mono ?_
    rintro e w4 ⟨zv, rfl, hA⟩
    have hA5 : All w.heap.size w (stM g zv 1 [(⟨1, 7, [], []⟩, .slice none 0 0, .slice none 0 0)] ++ [trO R S sv fv, gl (.slice la kn lc) (hds S kn)]) w4 := hA
    have hzo : Own w4 79 4 zv 1 _ := hA5.tail.head
    obtain ⟨zg, zc, rfl, _⟩ := own_some hzo (by omega)
    have hR4 : TAt 0 R S sv fv w4 := hA5.P (trO R S sv fv) (by simp [stM, obM])
    have r5 := hR4.blk.cell 5
    simp only [List.getElem?_cons_succ, List.getElem?_cons_zero, HD.out.root] at r5
    have hA6 := hA5.newBkA w4.heap.size rfl (encW (full (S.hd 0))) 44
    have HA6 := Lib.hid (hA6.perm List.perm_middle.symm)
    clear hA hA5 hA6 hzo hR4 HCr hg
    go_upto_region 7 with fail
    simp only [encW, full] at HA6
    generalize hr9 : w4.heap.size = r9 at *
    have HA6' := Lib.hid HA6.out
    clear HA6
    generalize w4.alloc (.cells #[.int .i64 (S.hd 0), .bool true, .bool true, .bool true, .bool true, .bool true, .slice none 0 0] 44) = w5 at *
    have k9 : Blk w5 r9 _ _ := HA6'.out.P (bk r9 [.int .i64 (S.hd 0), .bool true, .bool true, .bool true, .bool true, .bool true, .slice none 0 0] 44) (by simp)
    have p0 := k9.cell 0
    have p1 := k9.cell 1
    have p2 := k9.cell 2
    have p3 := k9.cell 3
    have p4 := k9.cell 4
    have p5 := k9.cell 5
    have p6 := k9.cell 6
    simp only [List.getElem?_cons_succ, List.getElem?_cons_zero] at p0 p1 p2 p3 p4 p5 p6
    have HW1 := Lib.hid (watch_new (z1 := []) (z2 := []) (z := ⟨1, 7, [], []⟩) (a := .slice none 0 0) (b := .slice none 0 0) (nx := 1) (zg := zg) (zc := zc) HA6'.out (by simp) (by simp) (S.hd 0) true true true true (by simp) (fun y hy => by cases hy) (fun y hy => by cases hy))
    clear k9 r5
    go_wp2_with fail
    refine HW1.out.mono ?_
    rintro e w6 ⟨a', rfl, hA7⟩
    have hA8 : All w.heap.size w (stO g zg zc ((⟨1, 7, [], []⟩ : Ov).watch (full (S.hd 0))) a' (.slice none 0 0) ++ bk r9 (encW (full (S.hd 0))) 44 :: [trO R S sv fv, gl (.slice la kn lc) (hds S kn)]) w6 := hA7
    have HA8 := Lib.hid hA8
    clear hA7 hA8 HW1 HA6' p0 p1 p2 p3 p4 p5 p6
    go_wp2_with fail
    go_loopw [42] (fun iv wr => L1R w g zg zc r9 R S sv fv (.slice la kn lc) kn iv wr) (fun iv _ => kn - (intOf iv).toNat)
    case atStart => exact ⟨0, _, a', S.hd 0, Nat.zero_le _, rfl, rfl, rfl, by simp [Ov.watch, wsAt], HA8.out⟩
    case round =>
      obtain ⟨i, z, a, t, hik, rfl, hz1, hz2, hz3, hA⟩ := hrel
      by_cases hin : i < kn
      · have hgl : Own wr 3 1 (.slice la kn lc) (hds S kn).length _ := hA.P (gl (.slice la kn lc) (hds S kn)) (by simp)
        rw [hds_len] at hgl
        obtain ⟨gh, ch, hsl, _⟩ := own_some hgl (by omega)
        simp only [Value.slice.injEq] at hsl
        obtain ⟨rfl, _, rfl⟩ := hsl
        have q := hgl.cellAt i (by omega)
        rw [hcells, List.getElem?_map, hds_at S kn i hin] at q
        have q' : wr.cell? ⟨gh, i, none⟩ = some (.int .i64 (S.hd (i + 1))) := q
        have k9 : Blk wr r9 _ _ := hA.P (bk r9 (encW (full t)) 44) (by simp)
        have c0 := k9.cell 0
        have z0 := k9.free 0
        have hA2 := All.setBk (stO g zg zc z a (.slice none 0 0)) hA 0 (.int .i64 (S.hd (i + 1)))
        have HA2 := Lib.hid hA2
        simp only [encW, full, List.getElem?_cons_succ, List.getElem?_cons_zero] at c0
        clear q hgl k9 hA hA2
        go_upto_region 13 with fail
        have HA7 := Lib.hid (show All w.heap.size w (stO g zg zc z a (.slice none 0 0) ++ bk r9 (encW (full (S.hd (i + 1)))) 44 :: [trO R S sv fv, gl (.slice (some ⟨gh, 0, none⟩) kn lc) (hds S kn)]) (wr.setCell ⟨r9, 0, none⟩ (.int .i64 (S.hd (i + 1)))) from HA2.out)
        clear HA2 c0 z0 q'
        generalize wr.setCell ⟨r9, 0, none⟩ (.int .i64 (S.hd (i + 1))) = w7 at *
        have k9 : Blk w7 r9 _ _ := HA7.out.P (bk r9 (encW (full (S.hd (i + 1)))) 44) (by simp)
        have p0 := k9.cell 0
        have p1 := k9.cell 1
        have p2 := k9.cell 2
        have p3 := k9.cell 3
        have p4 := k9.cell 4
        have p5 := k9.cell 5
        have p6 := k9.cell 6
        simp only [encW, full, List.getElem?_cons_succ, List.getElem?_cons_zero] at p0 p1 p2 p3 p4 p5 p6
        have hmem : ∀ y ∈ z.ws, ∃ j, j ≤ i ∧ y = full (S.hd j) := fun y hy => by
          rw [hz3] at hy
          unfold wsAt at hy
          rcases List.mem_cons.1 hy with rfl | hy
          · exact ⟨0, Nat.zero_le _, rfl⟩
          · obtain ⟨x, hx, rfl⟩ := List.mem_map.1 hy
            obtain ⟨j, hj⟩ := List.mem_iff_getElem?.1 hx
            rw [List.getElem?_take] at hj
            split at hj
            · rename_i hji
              rw [hds_at S kn j (by omega)] at hj
              cases hj
              exact ⟨j + 1, by omega, rfl⟩
            · cases hj
        have hwl : z.ws.length = i + 1 := by rw [hz3]; simp [wsAt, hds_len]; omega
        have HW2 := Lib.hid (watch_new (z1 := []) (z2 := []) (z := z) (a := a) (b := .slice none 0 0) (nx := 1) (zg := zg) (zc := zc) (g := g) HA7.out (by simp) (by simp) (S.hd (i + 1)) true true true true (by omega) (fun y hy => by obtain ⟨j, _, rfl⟩ := hmem y hy; exact ⟨rfl, rfl⟩) (fun y hy => by
          obtain ⟨j, hj, rfl⟩ := hmem y hy
          intro e
          have hfw := HD.out.lk.few
          have hln := HD.out.len
          have := hdl_inj (b := S.b) (s := S.s) (i := j) (j := i + 1) (by omega) (by omega) e
          omega))
        rw [hz1] at HW2
        have HZ := Lib.hid hz3
        clear k9 hmem hwl hz3
        go_wp2_with fail
        refine HW2.out.mono ?_
        rintro e w8 ⟨a2, rfl, hA8⟩
        have hA9 : All w.heap.size w (stO g zg zc (z.watch (full (S.hd (i + 1)))) a2 (.slice none 0 0) ++ bk r9 (encW (full (S.hd (i + 1)))) 44 :: [trO R S sv fv, gl (.slice (some ⟨gh, 0, none⟩) kn lc) (hds S kn)]) w8 := hA8
        have HA9 := Lib.hid hA9
        have hws : (z.watch (full (S.hd (i + 1)))).ws = wsAt S ((hds S kn).take (i + 1)) := by
          show z.ws ++ [full (S.hd (i + 1))] = _
          rw [HZ.out, List.take_add_one, hds_at S kn i hin]
          simp [wsAt]
        clear hA8 hA9 HW2 HA7 p0 p1 p2 p3 p4 p5 p6
        go_wp2_with fail
        exact ⟨⟨i + 1, z.watch (full (S.hd (i + 1))), a2, S.hd (i + 1), by omega, by go_num, hz1, hz2, hws, HA9.out⟩, by simp [intOf]; omega⟩
      · obtain rfl : i = kn := by omega
        rw [List.take_of_length_le (by rw [hds_len]; omega)] at hz3
        have hA2 : All w.heap.size w (trO R S sv fv :: gl (.slice la i lc) (hds S i) :: (stO g zg zc z a (.slice none 0 0) ++ [rl (.slice none 0 0) []])) wr := by
          have h3 := hA.nil 90 11
          have h4 := h3.sel [6, 7, 1, 2, 3, 4, 0] (by decide)
          exact h4
        have HA2 := Lib.hid hA2
        clear hA hA2 HA8
        go_wp2_with fail
        go_loopw [11, 56] (fun wv iv wr => L2R w g zg zc R S sv fv (.slice la i lc) i n wv iv wr) (fun _ iv _ => n - (intOf iv).toNat)
        case atStart => exact ⟨0, S, K, d, z, a, .slice none 0 0, .slice none 0 0, [], rfl, Nat.zero_le _, rfl, hz1, hz2, hz3, by simp, HD.out, rfl, rfl, HA2.out⟩
        case round =>
          obtain ⟨j, S', K', d', y, a2, b2, wv, rec, rfl, hjn, rfl, hy1, hy2, hy3, hrl, hD', hb', hs', hA⟩ := hrel
          by_cases hjl : j < n
          · obtain ⟨ob, off, rfl, _, hc⟩ := H.out (by omega)
            obtain ⟨q0, q1, q2, q3, q4⟩ := hc j hjl
            have hok := HO.out j
            have hsz := hs20 j hjl
            generalize f j = fj at q0 q1 q2 q3 q4 hok hsz
            obtain ⟨kd, oa, obb, oc, os⟩ := fj
            unfold Opn.ok at hok
            (try simp only at q0 q1 q2 q3 q4 hok hsz)
            obtain ⟨k0, rfl⟩ := Int.eq_ofNat_of_zero_le hok.1.1
            obtain ⟨a0, rfl⟩ := Int.eq_ofNat_of_zero_le hok.2.1.1
            obtain ⟨b0, rfl⟩ := Int.eq_ofNat_of_zero_le hok.2.2.1.1
            obtain ⟨c0, rfl⟩ := Int.eq_ofNat_of_zero_le hok.2.2.2.1
            obtain ⟨sl0, rfl⟩ : ∃ sl0 : List UInt8, os = ⟨sl0.toArray⟩ := ⟨os.data.toList, rfl⟩
            have hsl0 : sl0.length ≤ 20 := by
              have : (⟨sl0.toArray⟩ : ByteArray).size = sl0.length := by show sl0.toArray.size = _; simp
              omega
            have hbel := hA.below
            have q0 := cell_keep hbel q0
            have q1 := cell_keep hbel q1
            have q2 := cell_keep hbel q2
            have q3 := cell_keep hbel q3
            have q4 := cell_keep hbel q4
            have HMu := Lib.hid (mutate_any (N := i) hD' (show All w.heap.size w (trO R S' sv fv :: gl (.slice la i lc) (hds S' i) :: (stO g zg zc y a2 b2 ++ [rl wv rec])) wr from by rw [hds_same hb' hs']; exact hA) (HT.out.below hbel) k0 a0 b0 c0 (by omega) (by omega) (by omega) (by omega) sl0 (by omega) (by omega))
            simp only [strV] at HMu
            clear hA hc hok hsz hbel
            go_wp2_with fail
            refine HMu.out.mono ?_
            rintro e w9 ⟨S2, K2, d2, v, rs, rfl, hD2, hb2, hs2, hgd, hrs2, hA9⟩
            rw [hds_same hb' hs'] at hA9
            have hhd2 : ∀ x, S2.hd x = S'.hd x := fun x => by unfold Tr.hd; rw [hb2, hs2]
            have hhd0 : ∀ x, S2.hd x = S.hd x := fun x => by unfold Tr.hd; rw [hb2, hs2, hb', hs']
            have hA10 : All w.heap.size w (NtO g zg zc 1 y a2 b2 R S2 sv fv v rs [gl (.slice la i lc) (hds S i), rl wv rec]) w9 := by
              have h5 := hA9.sel [3, 4, 5, 6, 1, 0, 2, 7] (by decide)
              exact h5
            have hgd2 : ∀ r ∈ rs, Good S2 i r := fun r hr => by
              obtain ⟨⟨x, hx, hxt⟩, hk⟩ := hgd r hr
              exact ⟨⟨x, hx, by rw [hhd2]; exact hxt⟩, hk⟩
            have hwsF : ∀ x ∈ y.ws, ∃ k, k ≤ i ∧ x = full (S2.hd k) := fun x hx => by
              rw [hy3] at hx
              unfold wsAt at hx
              rcases List.mem_cons.1 hx with rfl | hx
              · exact ⟨0, Nat.zero_le _, by rw [hhd0]⟩
              · obtain ⟨u, hu, rfl⟩ := List.mem_map.1 hx
                obtain ⟨k, hk⟩ := List.mem_iff_getElem?.1 hu
                have hki : k < i := by have := (List.getElem?_eq_some_iff.1 hk).1; rw [hds_len] at this; exact this
                rw [hds_at S i k hki] at hk
                cases hk
                exact ⟨k + 1, by omega, by rw [hhd0]⟩
            have hcov : ∀ r ∈ rs, ∃ x ∈ y.ws, x.target = r.target := fun r hr => by
              obtain ⟨⟨x, hx, hxt⟩, _⟩ := hgd2 r hr
              rw [hhd0] at hxt
              rw [hy3]
              unfold wsAt
              by_cases hx0 : x = 0
              · subst hx0
                exact ⟨full (S.hd 0), List.mem_cons_self, hxt.symm⟩
              · refine ⟨full (S.hd x), List.mem_cons_of_mem _ (List.mem_map.2 ⟨S.hd x, ?_, rfl⟩), hxt.symm⟩
                have := hds_at S i (x - 1) (by omega)
                rw [show x - 1 + 1 = x by omega] at this
                exact List.mem_of_getElem? this
            have hwl : y.ws.length = i + 1 := by rw [hy3]; simp [wsAt, hds_len]
            have HNt := Lib.hid (note_one hD2 hA10 hgd2 hwsF hcov (by omega) (by omega) (by rw [hy2]; omega))
            have HD2 := Lib.hid hD2
            have HHb := Lib.hid (hb2.trans hb')
            have HHs := Lib.hid (hs2.trans hs')
            have HY3 := Lib.hid hy3
            clear hA9 hA10 hgd hgd2 hwsF hcov hwl HMu hD2 hD' hhd2 hhd0 hb2 hs2 hb' hs' hy3 q0 q1 q2 q3 q4
            go_wp2_with fail
            refine HNt.out.mono ?_
            rintro e w10 ⟨b3, rfl, hA11⟩
            have hA12 : All w.heap.size w ((stO g zg zc (y.noted rs) a2 b3 ++ [trO R S2 sv fv, rl v rs, gl (.slice la i lc) (hds S i)]) ++ rl wv rec :: []) w10 := hA11
            have HA12 := Lib.hid hA12
            have HV := Lib.hid (show Own w10 _ _ _ _ _ from hA12.P (rl v rs) (by simp))
            clear hA11 hA12 HNt
            go_wp2_with (at_builtin; refine wpList_append_all etR (stO g zg zc (y.noted rs) a2 b3 ++ [trO R S2 sv fv, rl v rs, gl (.slice la i lc) (hds S i)]) HA12.out HV.out (rows_one encR_one rs) (by omega) (by omega) rfl _ _ rfl rfl rfl ?_)
            intro v5 w11 hA13
            rw [← rows_append] at hA13
            have hA14 : All w.heap.size w (trO R S2 sv fv :: gl (.slice la i lc) (hds S i) :: (stO g zg zc (y.noted rs) a2 b3 ++ [rl v5 (rec ++ rs)])) w11 := by
              have e6 : (rec ++ rs).length = rec.length + rs.length := List.length_append
              rw [← e6] at hA13
              have h6 := hA13.sel [4, 6, 0, 1, 2, 3, 7] (by decide)
              exact h6
            have HA14 := Lib.hid hA14
            clear hA13 hA14 HA12 HV
            go_wp2_with fail
            exact ⟨⟨j + 1, S2, K2, d2, y.noted rs, a2, b3, v5, rec ++ rs, rfl, by omega, by go_num, hy1, by show y.rs ++ rs = _; rw [hy2], HY3.out, by rw [List.length_append]; omega, HD2.out, HHb.out, HHs.out, HA14.out⟩, by simp [intOf]; omega⟩
          · have hA15 : All w.heap.size w (stM g (.slice (some ⟨zg, 0, none⟩) ([] ++ (y, a2, b2) :: []).length zc) 1 ([] ++ (y, a2, b2) :: []) ++ [trO R S' sv fv, gl (.slice la i lc) (hds S i), rl wv rec]) wr := by
              have h7 := hA.sel [2, 3, 4, 5, 0, 1, 6] (by decide)
              exact h7
            have HTk := Lib.hid (take_ob (z1 := []) (z2 := []) hA15 (by simp) (by simp))
            rw [hy1] at HTk
            have hrec : rec.length ≤ 1000 := by omega
            clear hA hA15 hD' hb' hs' hy3
            go_wp2_with fail
            refine HTk.out.mono ?_
            rintro e w9 ⟨rfl, hA16⟩
            have hO1 : Own w9 90 11 b2 y.rs.length (rows encR y.rs) := hA16.P (rl b2 y.rs) (by simp)
            have hO2 : Own w9 90 11 wv rec.length (rows encR rec) := hA16.P (rl wv rec) (by simp)
            rw [hy2] at hO1
            have HSm := Lib.hid (same_any hO1 hO2 (by omega))
            have HB9 := Lib.hid hA16.below
            clear hA16 hO1 hO2 HTk
            go_wp2_with fail
            refine HSm.out.mono ?_
            rintro e w10 ⟨rfl, m10, hw10⟩
            rw [hw10]
            clear hw10
            go_wp2_with fail
            go_ret
            exact ⟨rfl, Below.drewN HB9.out m10⟩
end Go.Proofs.YtfdofkokiaapoaaDoor.W
end
section
/- What the row's list gives a walk (Laid), and a world for the witness. -/
namespace Go.Proofs.YtfdofkokiaapoaaDoor.W
open Go.ChangeShapes Go.WideShapes Go.ChangeAt Go.RowKit Go.Joins Go.Shelf
set_option linter.unusedVariables false

/-- the list of the row -/
def lst : List (String × DataW Unit) := [("unicode/utf8.acceptRanges", Rows.laid_unicode_utf8_acceptRanges), ("unicode/utf8.first", Rows.laid_unicode_utf8_first)]
theorem first_eq : Rows.laid_unicode_utf8_first = Lib.firstData := by kernel_rfl
theorem accept_eq : (Rows.laid_unicode_utf8_acceptRanges : DataW Unit) = Lib.acceptData := by kernel_rfl

set_option maxRecDepth 100000 in
theorem laid_of {w : World} (h : laidMetH Tryd.prog lst w) (hs : w.ShapedOpen Tryd.prog) : Laid w := by
  have h1 := Lib.laidMet.reads h (.tail _ (.head _))
  have h2 := Lib.laidMet.reads h (.head _)
  rw [first_eq] at h1
  rw [accept_eq] at h2
  exact ⟨utf8Tabs_of_readsT (U8Types.of196 Tryd.laysValid) ⟨by kernel_rfl, by kernel_rfl, by kernel_rfl, by kernel_rfl, by kernel_rfl, by kernel_rfl, by kernel_rfl⟩ h1 h2⟩

/-- A WORLD FOR THE WITNESS: the settled world, the two variables holding what the list says. -/
noncomputable def laidWorld (os : Os) : World :=
  let w0 := World.holding Tryd.prog os ⟨#[], #[], []⟩
  let put (h : Array Obj) (g : Nat) (cs : Array Value) : Array Obj := h.modify g fun
    | .cells _ t frozen => .cells cs t frozen
    | o => o
  let h1 := put w0.heap 0 (Lib.firstTab.map fun z => Value.int .u8 z).toArray
  let h2 := put h1 1 ((List.range 16).flatMap fun i => [Value.int .u8 (Lib.accLo i), Value.int .u8 (Lib.accHi i)]).toArray
  { w0 with heap := h2 }
theorem laid_met (os : Os) (args : Array Value) : laidMet Tryd.prog lst ((laidWorld os).forCall (fun _ _ => 0) ⟨#[], args, []⟩).memory :=
  (LaidIn.of_run (l := lst) [0, 1] 8 (by kernel_rfl) (by kernel_rfl) (by kernel_rfl) (by kernel_rfl)).met
end Go.Proofs.YtfdofkokiaapoaaDoor.W
end
