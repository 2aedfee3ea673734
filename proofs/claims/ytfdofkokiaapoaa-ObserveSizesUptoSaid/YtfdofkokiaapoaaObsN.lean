/- The law's model: measure. -/
import Derived.Test.YtfdofkokiaapoaaObsM
namespace Go.Proofs.Ytfdofkokiaapoaa.W
open Go.RowKit
set_option linter.unusedVariables false

/-- the model's state once k nodes are measured -/
def MmO (w0 : World) (gm o : Nat) (cs : List Value) (L : List Sz) (z : Zr) (a : Value) (l : List Ob) (iv : Value) (wr : World) : Prop :=
  ∃ (k : Nat) (b : Value), k ≤ z.sz.length ∧ iv = .int .i64 (k : Int) ∧ All w0.heap.size w0 (bk gm (cs.set (o + 1) b) 47 :: zl a (z.meas L k).sz :: zl b (z.meas L k).en :: l) wr
def MmI (w0 : World) (LL : List Sz → List Ob) (i : Nat) (en : List Sz) (x : Sz) (tv kv : Value) (wr : World) : Prop :=
  ∃ k : Nat, k ≤ en.length ∧ kv = .int .i64 (k : Int) ∧ tv = .bool (decide (i < k)) ∧ All w0.heap.size w0 (LL (if i < k then en.set i x else en)) wr
/-- where a node stands among the entries, if it does -/
def idxOf (en : List Sz) (x : Int) : Nat := en.findIdx (fun y => y.1 == x)
theorem idxOf_spec {en : List Sz} (h : Nd en) (x : Int) (k : Nat) (y : Sz) (hy : en[k]? = some y) : y.1 = x ↔ k = idxOf en x := by
  obtain ⟨hk, he⟩ := List.getElem?_eq_some_iff.1 hy
  unfold idxOf
  constructor
  · intro e
    have h1 : en.findIdx (fun y => y.1 == x) ≤ k := by
      by_cases hlt : k < en.findIdx (fun y => y.1 == x)
      · have := List.not_of_lt_findIdx hlt
        rw [he] at this
        simp [e] at this
      · omega
    have h2 : en.findIdx (fun y => y.1 == x) < en.length := by omega
    have h3 := List.findIdx_getElem (w := h2)
    simp only [beq_iff_eq] at h3
    rcases Nat.lt_or_ge (en.findIdx (fun y => y.1 == x)) k with h4 | h4
    · unfold Nd at h
      rw [List.pairwise_iff_getElem] at h
      have := h _ _ h2 hk h4
      rw [h3, he, e] at this
      exact absurd rfl this
    · omega
  · intro e
    subst e
    have h3 := List.findIdx_getElem (w := hk)
    rw [he] at h3
    simpa using h3
theorem putEn_idx (en : List Sz) (x : Sz) : putEn en x = if idxOf en x.1 < en.length then en.set (idxOf en x.1) x else en ++ [x] := by
  unfold putEn idxOf
  rw [List.findIdx?_eq_guard_findIdx_lt]
  by_cases h : List.findIdx (fun y => y.1 == x.1) en < en.length
  · simp [h, Option.guard]
  · simp [h, Option.guard]

set_option maxRecDepth 100000 in
set_option maxHeartbeats 4000000 in
theorem mmeasure_any {w0 w : World} {gm o c : Nat} {cs : List Value} {A : Option Addr} {L : List Sz} {z : Zr} {a b : Value} {l : List Ob} (h : All w0.heap.size w0 (bk gm cs 47 :: zl a z.sz :: zl b z.en :: l) w) (ha : cs[o]? = some a) (hb : cs[o + 1]? = some b)
    (hI : InT w0 A L) (hB : Byt L) (hl : L.length ≤ 2000000) (h1 : z.sz.length ≤ 100000) (h2 : z.en.length ≤ 100000) (hnd : Nd z.en) :
    Calls Try.prog 13 #[.pointer (some ⟨gm, o, none⟩), .slice A L.length c] w fun e w' => ∃ b', e = .returned (.tuple #[]) ∧ All w0.heap.size w0 (bk gm (cs.set (o + 1) b') 47 :: zl a (z.sz.map (nowOf L)) :: zl b' (z.sz.foldl (stepE L) z.en) :: l) w' := by
  have H0 : Hid (All w0.heap.size w0 (bk gm (cs.set (o + 1) b) 47 :: zl a (z.meas L 0).sz :: zl b (z.meas L 0).en :: l) w) := Lib.hid (by
    rw [meas_zero]
    obtain ⟨h3, h4⟩ := List.getElem?_eq_some_iff.1 hb
    rw [← h4, List.set_getElem_self]
    rw [← h4] at h
    exact h)
  have hO : Own _ _ _ _ _ _ := h.tail.head
  obtain ⟨aa, ac, rfl⟩ := own_shape hO
  have hblk : Blk _ _ _ _ := h.head
  have c0 := hblk.cell o
  rw [ha] at c0
  have hcsl : o + 1 < cs.length := (List.getElem?_eq_some_iff.1 hb).1
  have HA0 := Lib.hid ha
  have HI := Lib.hid hI
  have HB := Lib.hid hB
  have HND := Lib.hid hnd
  clear h hO hblk ha hb hI hB hnd
  go_enter Try.func13, Try.ntmps13
  go_wp2_with fail
  go_loopw [13] (fun iv wr => MmO w0 gm o cs L z (.slice aa z.sz.length ac) l iv wr) (fun iv _ => z.sz.length - (intOf iv).toNat)
  case atStart => exact ⟨0, b, Nat.zero_le _, rfl, H0.out⟩
  case round =>
    clear c0
    obtain ⟨k, b', hk, rfl, hA⟩ := hrel
    by_cases hkl : k < z.sz.length
    · obtain ⟨x, hx⟩ : ∃ x, z.sz[k]? = some x := ⟨_, List.getElem?_eq_getElem hkl⟩
      have hblk : Blk _ _ _ _ := hA.head
      have c0 := hblk.cell o
      have c1 := hblk.cell (o + 1)
      rw [List.getElem?_set_ne (by omega), HA0.out] at c0
      rw [List.getElem?_set_self hcsl] at c1
      have cf := hblk.free
      have cl := hblk.lt
      have hz1 : Own _ _ _ _ _ _ := hA.tail.head
      obtain ⟨ag, ac', he, ⟨e0, e1, e2⟩, ef, elt⟩ := z_cells hz1 (meas_get L k z x hx)
      simp only [Value.slice.injEq] at he
      obtain ⟨rfl, he', rfl⟩ := he
      have HC := Lib.hid (size_any (c := c) x (HI.out.still hA.below) HB.out hl)
      have HX := Lib.hid hx
      have HA := Lib.hid hA
      clear he' hz1 hblk hA hx
      go_wp2_with fail
      refine HC.out.mono ?_
      rintro e w2 ⟨rfl, hb2⟩
      have hA2 := HA.out.still hb2
      have hA3 := hA2.newBkA w2.heap.size rfl (encZ (nowOf L x)) 41
      simp only [encZ] at hA3 ⊢
      have hn1 := nowOf_node L x
      have HNW := Lib.hid (meas_same L k z x HX.out)
      have HZE := Lib.hid (meas_put L k z x HX.out)
      have hsl := meas_szlen L k z (by omega)
      have hbe : (z.meas L k).en.length ≤ 200000 := by have := meas_enlen L k z (by omega); omega
      have HNK : Hid (Nd (z.meas L k).en) := Lib.hid (fold_nd _ HND.out)
      have hmg := meas_get L k z x HX.out
      clear HX
      generalize nowOf L x = nw at *
      obtain ⟨n1, n2, n3⟩ := nw
      obtain ⟨x1, x2, x3⟩ := x
      simp only at hn1 e0 e1 e2
      subst hn1
      have HA3 := Lib.hid hA3
      have HMG := Lib.hid hmg
      clear hA2 hA3 HA HC c0 c1 cf cl e0 e1 e2 ef elt hb2 hmg
      go_upto_region 4 with (fail)
      generalize hr5 : w2.heap.size = r5 at *
      clear hr5
      generalize w2.alloc (.cells #[.int .i64 n1, .int .i64 n2, .int .i64 n3] 41) = W at *
      have b5 : Blk _ _ _ _ := HA3.out.head
      have bg : Blk _ _ _ _ := HA3.out.tail.head
      have hz1 : Own _ _ _ _ _ _ := HA3.out.tail.tail.head
      have m0 := b5.cell 0
      have m1 := b5.cell 1
      have m2 := b5.cell 2
      simp only [List.getElem?_cons_zero, List.getElem?_cons_succ] at m0 m1 m2
      have c0 := bg.cell o
      rw [List.getElem?_set_ne (by omega), HA0.out] at c0
      obtain ⟨ag', ac', he, ⟨e0, e1, e2⟩, ef, elt⟩ := z_cells hz1 HMG.out
      simp only [Value.slice.injEq, Option.some.injEq, Addr.mk.injEq, and_true] at he
      obtain ⟨rfl, he', rfl⟩ := he
      simp only at e0 e1 e2
      have HSL := Lib.hid hsl
      clear he' hz1 b5 bg hsl
      by_cases h2' : n2 = x2
      · subst h2'
        by_cases h3' : n3 = x3
        · subst h3'
          have HM := Lib.hid (HNW.out rfl)
          clear HNW HZE
          go_quiet (fail)
          go_wp2_with fail
          go_roundw
          case rel => exact ⟨k + 1, b', by omega, by go_num, by rw [HM.out]; exact HA3.out.tail.drewN _⟩
          case measure => simp [intOf]; omega
        · go_quiet (fail)
          have HZM := Lib.hid (HZE.out (fun h => h3' (by simp at h; exact h)))
          clear HNW HZE HMG m0 m1 m2 c0 e0 e1 e2 ef elt
          have HV := Lib.hid (HA3.out.drewN nq)
          generalize W.drewN nq = V at *
          clear HA3
          generalize z.meas L k = zk at *
          have hb' : Own _ _ _ _ _ _ := HV.out.tail.tail.tail.head
          obtain ⟨ba, bc, rfl⟩ := own_shape hb'
          have b5 : Blk _ _ _ _ := HV.out.head
          have bg : Blk _ _ _ _ := HV.out.tail.head
          have hz1 : Own _ _ _ _ _ _ := HV.out.tail.tail.head
          have m0 := b5.cell 0
          have m1 := b5.cell 1
          have m2 := b5.cell 2
          simp only [List.getElem?_cons_zero, List.getElem?_cons_succ] at m0 m1 m2
          have c0 := bg.cell o
          rw [List.getElem?_set_ne (by omega), HA0.out] at c0
          obtain ⟨yk, hyk⟩ : ∃ yk, zk.sz[k]? = some yk := ⟨_, List.getElem?_eq_getElem (by rw [HSL.out]; exact hkl)⟩
          obtain ⟨ag', ac', he, ⟨e0, e1, e2⟩, ef, elt⟩ := z_cells hz1 hyk
          simp only [Value.slice.injEq, Option.some.injEq, Addr.mk.injEq, and_true] at he
          obtain ⟨rfl, he', rfl⟩ := he
          have HA5 := Lib.hid ((HV.out.setZ [_, _] HSL.out k (n1, n2, n3) hkl).drew)
          clear he' hz1 b5 bg hb' hyk HV
          go_wp2_with fail
          go_region
          clear m0 m1 m2 c0 e0 e1 e2 ef elt
          generalize ((((V.setCell ⟨ag, k * 3, none⟩ (.int .i64 n1)).setCell ⟨ag, k * 3 + 1, none⟩ (.int .i64 n2)).setCell ⟨ag, k * 3 + 2, none⟩ (.int .i64 n3)).drew) = V2 at *
          have bg : Blk _ _ _ _ := HA5.out.tail.head
          have c1 := bg.cell (o + 1)
          rw [List.getElem?_set_self hcsl] at c1
          clear bg
          obtain ⟨i, hi⟩ : ∃ i, idxOf zk.en n1 = i := ⟨_, rfl⟩
          have hsp := idxOf_spec HNK.out n1
          rw [hi] at hsp
          have hpi := putEn_idx zk.en (n1, n2, n3)
          simp only [hi] at hpi
          have HSP := Lib.hid hsp
          have HPI := Lib.hid hpi
          clear hi hsp hpi
          go_wp2_with fail
          go_loopw [6, 47] (fun tv kv wr => MmI w0 (fun E => bk r5 [.int .i64 n1, .int .i64 n2, .int .i64 n3] 41 :: bk gm (cs.set (o + 1) (.slice ba zk.en.length bc)) 47 :: zl (.slice (some ⟨ag, 0, none⟩) z.sz.length ac) (zk.sz.set k (n1, n2, n3)) :: zl (.slice ba zk.en.length bc) E :: l) i zk.en (n1, n2, n3) tv kv wr) (fun _ kv _ => zk.en.length - (intOf kv).toNat)
          case atStart => exact ⟨0, Nat.zero_le _, rfl, by simp, by rw [if_neg (Nat.not_lt_zero i)]; exact HA5.out⟩
          case round =>
            clear c1 HA5
            obtain ⟨q, hq, rfl, rfl, hA⟩ := hrel
            have b5 : Blk _ _ _ _ := hA.head
            have bg : Blk _ _ _ _ := hA.tail.head
            have m0 := b5.cell 0
            have m1 := b5.cell 1
            have m2 := b5.cell 2
            have ml := b5.lt
            simp only [List.getElem?_cons_zero, List.getElem?_cons_succ] at m0 m1 m2
            have c1 := bg.cell (o + 1)
            rw [List.getElem?_set_self hcsl] at c1
            have cf := bg.free
            have cl := bg.lt
            by_cases hql : q < zk.en.length
            · obtain ⟨y, hy⟩ : ∃ y, zk.en[q]? = some y := ⟨_, List.getElem?_eq_getElem hql⟩
              have hcy : (if i < q then zk.en.set i (n1, n2, n3) else zk.en)[q]? = some y := by
                split
                · rw [List.getElem?_set_ne (by omega)]; exact hy
                · exact hy
              have hz1 : Own _ _ _ _ _ _ := hA.tail.tail.tail.head
              have hlen : (if i < q then zk.en.set i (n1, n2, n3) else zk.en).length = zk.en.length := by split <;> simp
              obtain ⟨bg', bc', he, ⟨e0, e1, e2⟩, ef, elt⟩ := z_cells hz1 hcy
              simp only [Value.slice.injEq] at he
              obtain ⟨rfl, he', rfl⟩ := he
              have hiff := HSP.out q y hy
              have HLN := Lib.hid hlen
              obtain ⟨y0, y1, y2⟩ := y
              simp only at e0 e1 e2 hiff
              by_cases hqi : q = i
              · have hy0 := hiff.2 hqi
                subst hqi
                have eb : (y0 == n1) = true := by simpa using hy0
                rw [if_neg (Nat.lt_irrefl q)] at hA
                have HAA := Lib.hid hA
                clear hA hiff hy hcy hz1 hlen he' b5 bg hy0
                go_wp2_with fail
                go_quiet (fail)
                have HV3 := Lib.hid (HAA.out.drewN nq)
                generalize wr.drewN nq = V3 at *
                clear m0 m1 m2 ml c1 cf cl e0 e1 e2 ef elt HAA
                have b5 : Blk _ _ _ _ := HV3.out.head
                have bg : Blk _ _ _ _ := HV3.out.tail.head
                have m0 := b5.cell 0
                have m1 := b5.cell 1
                have m2 := b5.cell 2
                simp only [List.getElem?_cons_zero, List.getElem?_cons_succ] at m0 m1 m2
                have c1 := bg.cell (o + 1)
                rw [List.getElem?_set_self hcsl] at c1
                obtain ⟨yk, hyk⟩ : ∃ yk, zk.en[q]? = some yk := ⟨_, List.getElem?_eq_getElem hql⟩
                have hz1 : Own _ _ _ _ _ _ := HV3.out.tail.tail.tail.head
                obtain ⟨bg'', bc'', he, ⟨e0, e1, e2⟩, ef, elt⟩ := z_cells hz1 hyk
                simp only [Value.slice.injEq, Option.some.injEq, Addr.mk.injEq, and_true, true_and] at he
                obtain ⟨rfl, rfl⟩ := he
                have HA7 := Lib.hid ((HV3.out.setZ [_, _, _] rfl q (n1, n2, n3) hql).drew)
                clear hyk hz1 b5 bg
                go_wp2_with fail
                go_region
                go_wp2_with fail
                go_roundw
                case rel => exact ⟨q + 1, by omega, by go_num, by simp, by rw [if_pos (by omega)]; exact HA7.out⟩
                case measure => simp [intOf]; omega
              · have hy0 : ¬ y0 = n1 := fun h => hqi (hiff.1 h)
                have eb : (y0 == n1) = false := by simpa using hy0
                have HAA := Lib.hid hA
                have hd1 : decide (i < q + 1) = decide (i < q) := by by_cases h : i < q <;> simp [h] <;> omega
                have HD1 := Lib.hid hd1
                have hif : (if i < q + 1 then zk.en.set i (n1, n2, n3) else zk.en) = (if i < q then zk.en.set i (n1, n2, n3) else zk.en) := by
                  by_cases h : i < q
                  · rw [if_pos h, if_pos (by omega)]
                  · rw [if_neg h, if_neg (by omega)]
                have HIF := Lib.hid hif
                clear hA hiff hy hcy hz1 hlen he' b5 bg hy0 hqi hd1 hif
                go_wp2_with fail
                go_quiet (fail)
                go_wp2_with fail
                go_roundw
                case rel => exact ⟨q + 1, by omega, by go_num, by rw [HD1.out], by rw [HIF.out]; exact HAA.out.drewN _⟩
                case measure => simp [intOf]; omega
            · obtain rfl : q = zk.en.length := by omega
              have HAA := Lib.hid hA
              by_cases hil : i < zk.en.length
              · have HPE : Hid (putEn zk.en (n1, n2, n3) = zk.en.set i (n1, n2, n3)) := Lib.hid (by rw [HPI.out, if_pos hil])
                have hdt : decide (i < zk.en.length) = true := by simpa using hil
                rw [if_pos hil] at HAA
                rw [hdt]
                clear hA hdt b5 bg
                go_wp2_with fail
                go_roundw
                case rel => exact ⟨k + 1, .slice ba zk.en.length bc, by omega, by go_num, by rw [HZM.out, HPE.out]; exact HAA.out.tail⟩
                case measure => simp [intOf]; omega
              · have HPE : Hid (putEn zk.en (n1, n2, n3) = zk.en ++ [(n1, n2, n3)]) := Lib.hid (by rw [HPI.out, if_neg hil])
                have hdt : decide (i < zk.en.length) = false := by simpa using hil
                rw [if_neg hil] at HAA
                rw [hdt]
                have ec1 : ∀ O, (wr.alloc O).cell? ⟨gm, o + 1, none⟩ = some (.slice ba zk.en.length bc) := fun O => (World.cell?_alloc_lt _ _ _ cl).trans c1
                have em0 : ∀ O, (wr.alloc O).cell? ⟨r5, 0, none⟩ = some (.int .i64 n1) := fun O => (World.cell?_alloc_lt _ _ _ ml).trans m0
                have em1 : ∀ O, (wr.alloc O).cell? ⟨r5, 1, none⟩ = some (.int .i64 n2) := fun O => (World.cell?_alloc_lt _ _ _ ml).trans m1
                have em2 : ∀ O, (wr.alloc O).cell? ⟨r5, 2, none⟩ = some (.int .i64 n3) := fun O => (World.cell?_alloc_lt _ _ _ ml).trans m2
                have H9 := Lib.hid (HAA.out.alloc (.cells #[.int .i64 n1, .int .i64 n2, .int .i64 n3] 41)).drew
                clear hA hdt b5 bg HAA
                go_wp2_with fail
                go_region_law (first
                  | (refine step_append_all etZ [_, _, _] H9.out (own_at (w := (wr.alloc _).drew) (n := 1) (size := 3) (Blk.new wr [.int .i64 n1, .int .i64 n2, .int .i64 n3] 41) rfl (by omega)) (by intro u hu; simp at hu; rcases hu with rfl | rfl | rfl <;> rfl) (by omega) (by omega) (by rfl) _ _ (by rfl) (by rfl) (by rfl) ?_; intro v' w6 hA6; have ho : Own _ _ _ _ _ _ := hA6.tail.tail.tail.head; obtain ⟨va, vc, rfl⟩ := own_shape ho; have bg6 : Blk _ _ _ _ := hA6.tail.head; have g1 := bg6.cell (o + 1); rw [List.getElem?_set_self hcsl] at g1; have gf := bg6.free; have gl := bg6.lt; have HB6 := Lib.hid hA6; clear hA6 ho bg6))
                all_goals
                  go_wp2_with fail
                  go_roundw
                  case rel =>
                    refine ⟨k + 1, .slice va (zk.en.length + 1) vc, by omega, by go_num, ?_⟩
                    rw [HZM.out]
                    have h10 := (HB6.out.setBk [_] (o + 1) (.slice va (zk.en.length + 1) vc)).tail
                    rw [List.set_set] at h10
                    have e1 : (zk.en ++ [(n1, n2, n3)]).length = zk.en.length + 1 := by simp
                    have e2 : rows encZ (zk.en ++ [(n1, n2, n3)]) = rows encZ zk.en ++ [.int .i64 n1, .int .i64 n2, .int .i64 n3] := rows_snoc _ _
                    show All _ _ (_ :: _ :: sl _ _ _ (putEn zk.en (n1, n2, n3)).length (rows encZ (putEn zk.en (n1, n2, n3))) :: l) _
                    rw [HPE.out, e1, e2]
                    exact h10
                  case measure => simp [intOf]; omega
      · go_quiet (fail)
        have HZM := Lib.hid (HZE.out (fun h => h2' (by simp at h; exact h.1)))
        clear HNW HZE HMG m0 m1 m2 c0 e0 e1 e2 ef elt
        have HV := Lib.hid (HA3.out.drewN nq)
        generalize W.drewN nq = V at *
        clear HA3
        generalize z.meas L k = zk at *
        have hb' : Own _ _ _ _ _ _ := HV.out.tail.tail.tail.head
        obtain ⟨ba, bc, rfl⟩ := own_shape hb'
        have b5 : Blk _ _ _ _ := HV.out.head
        have bg : Blk _ _ _ _ := HV.out.tail.head
        have hz1 : Own _ _ _ _ _ _ := HV.out.tail.tail.head
        have m0 := b5.cell 0
        have m1 := b5.cell 1
        have m2 := b5.cell 2
        simp only [List.getElem?_cons_zero, List.getElem?_cons_succ] at m0 m1 m2
        have c0 := bg.cell o
        rw [List.getElem?_set_ne (by omega), HA0.out] at c0
        obtain ⟨yk, hyk⟩ : ∃ yk, zk.sz[k]? = some yk := ⟨_, List.getElem?_eq_getElem (by rw [HSL.out]; exact hkl)⟩
        obtain ⟨ag', ac', he, ⟨e0, e1, e2⟩, ef, elt⟩ := z_cells hz1 hyk
        simp only [Value.slice.injEq, Option.some.injEq, Addr.mk.injEq, and_true] at he
        obtain ⟨rfl, he', rfl⟩ := he
        have HA5 := Lib.hid ((HV.out.setZ [_, _] HSL.out k (n1, n2, n3) hkl).drew)
        clear he' hz1 b5 bg hb' hyk HV
        go_wp2_with fail
        go_region
        clear m0 m1 m2 c0 e0 e1 e2 ef elt
        generalize ((((V.setCell ⟨ag, k * 3, none⟩ (.int .i64 n1)).setCell ⟨ag, k * 3 + 1, none⟩ (.int .i64 n2)).setCell ⟨ag, k * 3 + 2, none⟩ (.int .i64 n3)).drew) = V2 at *
        have bg : Blk _ _ _ _ := HA5.out.tail.head
        have c1 := bg.cell (o + 1)
        rw [List.getElem?_set_self hcsl] at c1
        clear bg
        obtain ⟨i, hi⟩ : ∃ i, idxOf zk.en n1 = i := ⟨_, rfl⟩
        have hsp := idxOf_spec HNK.out n1
        rw [hi] at hsp
        have hpi := putEn_idx zk.en (n1, n2, n3)
        simp only [hi] at hpi
        have HSP := Lib.hid hsp
        have HPI := Lib.hid hpi
        clear hi hsp hpi
        go_wp2_with fail
        go_loopw [6, 47] (fun tv kv wr => MmI w0 (fun E => bk r5 [.int .i64 n1, .int .i64 n2, .int .i64 n3] 41 :: bk gm (cs.set (o + 1) (.slice ba zk.en.length bc)) 47 :: zl (.slice (some ⟨ag, 0, none⟩) z.sz.length ac) (zk.sz.set k (n1, n2, n3)) :: zl (.slice ba zk.en.length bc) E :: l) i zk.en (n1, n2, n3) tv kv wr) (fun _ kv _ => zk.en.length - (intOf kv).toNat)
        case atStart => exact ⟨0, Nat.zero_le _, rfl, by simp, by rw [if_neg (Nat.not_lt_zero i)]; exact HA5.out⟩
        case round =>
          clear c1 HA5
          obtain ⟨q, hq, rfl, rfl, hA⟩ := hrel
          have b5 : Blk _ _ _ _ := hA.head
          have bg : Blk _ _ _ _ := hA.tail.head
          have m0 := b5.cell 0
          have m1 := b5.cell 1
          have m2 := b5.cell 2
          have ml := b5.lt
          simp only [List.getElem?_cons_zero, List.getElem?_cons_succ] at m0 m1 m2
          have c1 := bg.cell (o + 1)
          rw [List.getElem?_set_self hcsl] at c1
          have cf := bg.free
          have cl := bg.lt
          by_cases hql : q < zk.en.length
          · obtain ⟨y, hy⟩ : ∃ y, zk.en[q]? = some y := ⟨_, List.getElem?_eq_getElem hql⟩
            have hcy : (if i < q then zk.en.set i (n1, n2, n3) else zk.en)[q]? = some y := by
              split
              · rw [List.getElem?_set_ne (by omega)]; exact hy
              · exact hy
            have hz1 : Own _ _ _ _ _ _ := hA.tail.tail.tail.head
            have hlen : (if i < q then zk.en.set i (n1, n2, n3) else zk.en).length = zk.en.length := by split <;> simp
            obtain ⟨bg', bc', he, ⟨e0, e1, e2⟩, ef, elt⟩ := z_cells hz1 hcy
            simp only [Value.slice.injEq] at he
            obtain ⟨rfl, he', rfl⟩ := he
            have hiff := HSP.out q y hy
            have HLN := Lib.hid hlen
            obtain ⟨y0, y1, y2⟩ := y
            simp only at e0 e1 e2 hiff
            by_cases hqi : q = i
            · have hy0 := hiff.2 hqi
              subst hqi
              have eb : (y0 == n1) = true := by simpa using hy0
              rw [if_neg (Nat.lt_irrefl q)] at hA
              have HAA := Lib.hid hA
              clear hA hiff hy hcy hz1 hlen he' b5 bg hy0
              go_wp2_with fail
              go_quiet (fail)
              have HV3 := Lib.hid (HAA.out.drewN nq)
              generalize wr.drewN nq = V3 at *
              clear m0 m1 m2 ml c1 cf cl e0 e1 e2 ef elt HAA
              have b5 : Blk _ _ _ _ := HV3.out.head
              have bg : Blk _ _ _ _ := HV3.out.tail.head
              have m0 := b5.cell 0
              have m1 := b5.cell 1
              have m2 := b5.cell 2
              simp only [List.getElem?_cons_zero, List.getElem?_cons_succ] at m0 m1 m2
              have c1 := bg.cell (o + 1)
              rw [List.getElem?_set_self hcsl] at c1
              obtain ⟨yk, hyk⟩ : ∃ yk, zk.en[q]? = some yk := ⟨_, List.getElem?_eq_getElem hql⟩
              have hz1 : Own _ _ _ _ _ _ := HV3.out.tail.tail.tail.head
              obtain ⟨bg'', bc'', he, ⟨e0, e1, e2⟩, ef, elt⟩ := z_cells hz1 hyk
              simp only [Value.slice.injEq, Option.some.injEq, Addr.mk.injEq, and_true, true_and] at he
              obtain ⟨rfl, rfl⟩ := he
              have HA7 := Lib.hid ((HV3.out.setZ [_, _, _] rfl q (n1, n2, n3) hql).drew)
              clear hyk hz1 b5 bg
              go_wp2_with fail
              go_region
              go_wp2_with fail
              go_roundw
              case rel => exact ⟨q + 1, by omega, by go_num, by simp, by rw [if_pos (by omega)]; exact HA7.out⟩
              case measure => simp [intOf]; omega
            · have hy0 : ¬ y0 = n1 := fun h => hqi (hiff.1 h)
              have eb : (y0 == n1) = false := by simpa using hy0
              have HAA := Lib.hid hA
              have hd1 : decide (i < q + 1) = decide (i < q) := by by_cases h : i < q <;> simp [h] <;> omega
              have HD1 := Lib.hid hd1
              have hif : (if i < q + 1 then zk.en.set i (n1, n2, n3) else zk.en) = (if i < q then zk.en.set i (n1, n2, n3) else zk.en) := by
                by_cases h : i < q
                · rw [if_pos h, if_pos (by omega)]
                · rw [if_neg h, if_neg (by omega)]
              have HIF := Lib.hid hif
              clear hA hiff hy hcy hz1 hlen he' b5 bg hy0 hqi hd1 hif
              go_wp2_with fail
              go_quiet (fail)
              go_wp2_with fail
              go_roundw
              case rel => exact ⟨q + 1, by omega, by go_num, by rw [HD1.out], by rw [HIF.out]; exact HAA.out.drewN _⟩
              case measure => simp [intOf]; omega
          · obtain rfl : q = zk.en.length := by omega
            have HAA := Lib.hid hA
            by_cases hil : i < zk.en.length
            · have HPE : Hid (putEn zk.en (n1, n2, n3) = zk.en.set i (n1, n2, n3)) := Lib.hid (by rw [HPI.out, if_pos hil])
              have hdt : decide (i < zk.en.length) = true := by simpa using hil
              rw [if_pos hil] at HAA
              rw [hdt]
              clear hA hdt b5 bg
              go_wp2_with fail
              go_roundw
              case rel => exact ⟨k + 1, .slice ba zk.en.length bc, by omega, by go_num, by rw [HZM.out, HPE.out]; exact HAA.out.tail⟩
              case measure => simp [intOf]; omega
            · have HPE : Hid (putEn zk.en (n1, n2, n3) = zk.en ++ [(n1, n2, n3)]) := Lib.hid (by rw [HPI.out, if_neg hil])
              have hdt : decide (i < zk.en.length) = false := by simpa using hil
              rw [if_neg hil] at HAA
              rw [hdt]
              have ec1 : ∀ O, (wr.alloc O).cell? ⟨gm, o + 1, none⟩ = some (.slice ba zk.en.length bc) := fun O => (World.cell?_alloc_lt _ _ _ cl).trans c1
              have em0 : ∀ O, (wr.alloc O).cell? ⟨r5, 0, none⟩ = some (.int .i64 n1) := fun O => (World.cell?_alloc_lt _ _ _ ml).trans m0
              have em1 : ∀ O, (wr.alloc O).cell? ⟨r5, 1, none⟩ = some (.int .i64 n2) := fun O => (World.cell?_alloc_lt _ _ _ ml).trans m1
              have em2 : ∀ O, (wr.alloc O).cell? ⟨r5, 2, none⟩ = some (.int .i64 n3) := fun O => (World.cell?_alloc_lt _ _ _ ml).trans m2
              have H9 := Lib.hid (HAA.out.alloc (.cells #[.int .i64 n1, .int .i64 n2, .int .i64 n3] 41)).drew
              clear hA hdt b5 bg HAA
              go_wp2_with fail
              go_region_law (first
                | (refine step_append_all etZ [_, _, _] H9.out (own_at (w := (wr.alloc _).drew) (n := 1) (size := 3) (Blk.new wr [.int .i64 n1, .int .i64 n2, .int .i64 n3] 41) rfl (by omega)) (by intro u hu; simp at hu; rcases hu with rfl | rfl | rfl <;> rfl) (by omega) (by omega) (by rfl) _ _ (by rfl) (by rfl) (by rfl) ?_; intro v' w6 hA6; have ho : Own _ _ _ _ _ _ := hA6.tail.tail.tail.head; obtain ⟨va, vc, rfl⟩ := own_shape ho; have bg6 : Blk _ _ _ _ := hA6.tail.head; have g1 := bg6.cell (o + 1); rw [List.getElem?_set_self hcsl] at g1; have gf := bg6.free; have gl := bg6.lt; have HB6 := Lib.hid hA6; clear hA6 ho bg6))
              all_goals
                go_wp2_with fail
                go_roundw
                case rel =>
                  refine ⟨k + 1, .slice va (zk.en.length + 1) vc, by omega, by go_num, ?_⟩
                  rw [HZM.out]
                  have h10 := (HB6.out.setBk [_] (o + 1) (.slice va (zk.en.length + 1) vc)).tail
                  rw [List.set_set] at h10
                  have e1 : (zk.en ++ [(n1, n2, n3)]).length = zk.en.length + 1 := by simp
                  have e2 : rows encZ (zk.en ++ [(n1, n2, n3)]) = rows encZ zk.en ++ [.int .i64 n1, .int .i64 n2, .int .i64 n3] := rows_snoc _ _
                  show All _ _ (_ :: _ :: sl _ _ _ (putEn zk.en (n1, n2, n3)).length (rows encZ (putEn zk.en (n1, n2, n3))) :: l) _
                  rw [HPE.out, e1, e2]
                  exact h10
                case measure => simp [intOf]; omega
    · obtain rfl : k = z.sz.length := by omega
      have e1 : (z.meas L z.sz.length).sz = z.sz.map (nowOf L) := by simp [Zr.meas]
      have e2 : (z.meas L z.sz.length).en = z.sz.foldl (stepE L) z.en := by simp [Zr.meas]
      rw [e1, e2] at hA
      have HAA := Lib.hid hA
      clear hA e1 e2
      go_wp2_with fail
      go_end0
      exact ⟨b', rfl, HAA.out⟩
end Go.Proofs.Ytfdofkokiaapoaa.W
