/- The contract of without, of observe (slices.DeleteFunc, in place). -/
import Derived.Test.YtfdofkokiaapoaaObsF
import Derived.Test.YtfdofkokiaapoaaClear
namespace Go.Proofs.Ytfdofkokiaapoaa.W
open Go.RowKit
set_option linter.unusedVariables false

theorem without1_any (n wd h x : Int) (g : Nat) (w : World) (hg : w.cell? ⟨g, 0, none⟩ = some (.int .i64 x)) :
    Calls Try.prog 26 #[.agg #[.int .i64 n, .int .i64 wd, .int .i64 h], .pointer (some ⟨g, 0, none⟩)] w fun e w' => e = .returned (.bool (n == x)) ∧ Below w.heap.size w w' := by
  have hlt : g < w.heap.size := World.block_lt_of_cell? w ⟨g, 0, none⟩ hg
  have hne : g ≠ w.heap.size := by omega
  have hal : ∀ o, (w.alloc o).cell? ⟨g, 0, none⟩ = some (.int .i64 x) := fun o => (World.cell?_alloc_lt _ _ _ hlt).trans hg
  go_enter Try.func26, Try.ntmps26
  go_wp2_with fail
  go_ret
  exact ⟨rfl, (Below.refl _ _).alloc (Nat.le_refl _) _⟩

set_option maxRecDepth 100000 in
theorem index2_any {w : World} {v : Value} {l : List Sz} {x : Int} {g : Nat} (h : Own w 41 3 v l.length (rows encZ l)) (hg : w.cell? ⟨g, 0, none⟩ = some (.int .i64 x)) (hl : l.length ≤ 1000000) :
    Calls Try.prog 23 #[v, .func (.func 26) #[] #[.pointer (some ⟨g, 0, none⟩)]] w fun e w' => e = .returned (.int .i64 (placeOf l x)) ∧ Below w.heap.size w w' := by
  have hlt : g < w.heap.size := World.block_lt_of_cell? w ⟨g, 0, none⟩ hg
  obtain ⟨va, vc, rfl⟩ := own_shape h
  have H := Lib.hid h
  have HG := Lib.hid hg
  clear h hg
  go_enter Try.func23, Try.ntmps23
  go_wp2_with fail
  go_loopw [8] (fun iv wr => PlR w l x iv wr) (fun iv _ => l.length - (intOf iv).toNat)
  case atStart => exact ⟨0, Nat.zero_le _, rfl, fun j z hj => absurd hj (Nat.not_lt_zero j), Below.refl _ _⟩
  case round =>
    obtain ⟨k, hk, rfl, hN, hB⟩ := hrel
    have HN := Lib.hid hN
    clear hN
    by_cases hkl : k < l.length
    · obtain ⟨y, hy⟩ : ∃ y, l[k]? = some y := ⟨_, List.getElem?_eq_getElem hkl⟩
      have hO := own_below H.out hB
      obtain ⟨vg, vc', he, _⟩ := own_some hO (by omega)
      simp only [Value.slice.injEq] at he
      obtain ⟨rfl, _, rfl⟩ := he
      have q0 := hO.cellAt (k * 3) (by omega)
      have q1 := hO.cellAt (k * 3 + 1) (by omega)
      have q2 := hO.cellAt (k * 3 + 2) (by omega)
      have r0 := rows_at (enc := encZ) encZ_len l k y hy 0 (by decide)
      have r1 := rows_at (enc := encZ) encZ_len l k y hy 1 (by decide)
      have r2 := rows_at (enc := encZ) encZ_len l k y hy 2 (by decide)
      rw [show k * 3 + 0 = k * 3 from rfl] at r0
      rw [r0] at q0
      rw [r1] at q1
      rw [r2] at q2
      simp only [encZ, List.getElem?_cons_zero, List.getElem?_cons_succ] at q0 q1 q2
      have hc := (hB.cell (p := ⟨g, 0, none⟩) hlt).trans HG.out
      have HC := Lib.hid (without1_any y.1 y.2.1 y.2.2 x g wr hc)
      have HY := Lib.hid hy
      clear r0 r1 r2 hO hc hy
      by_cases hyx : y.1 = x
      · have e1 : (y.1 == x) = true := by simpa using hyx
        have HP := Lib.hid (placeOf_some HY.out hyx HN.out)
        rw [e1] at HC
        clear hyx e1
        go_wp2_with fail
        refine HC.out.mono ?_
        rintro e w2 ⟨rfl, hb2⟩
        go_wp2_with fail
        go_ret
        exact ⟨by rw [HP.out]; rfl, hB.trans (hb2.mono hB.size)⟩
      · have e1 : (y.1 == x) = false := by simpa using hyx
        rw [e1] at HC
        clear e1
        go_wp2_with fail
        refine HC.out.mono ?_
        rintro e w2 ⟨rfl, hb2⟩
        go_wp2_with fail
        go_roundw
        case rel =>
          refine ⟨k + 1, by omega, by go_num, fun j z hj hz => ?_, hB.trans (hb2.mono hB.size)⟩
          by_cases e : j = k
          · subst e
            rw [HY.out] at hz
            obtain rfl := Option.some.inj hz
            exact hyx
          · exact HN.out j z (by omega) hz
        case measure => simp [intOf]; omega
    · have HP := Lib.hid (placeOf_none (l := l) (x := x) fun j z hz => HN.out j z (by have := (List.getElem?_eq_some_iff.1 hz).1; omega) hz)
      go_wp2_with fail
      go_ret
      exact ⟨by rw [HP.out]; rfl, hB⟩


theorem zeroZ : ∀ w, (zeroValue 41).run Try.prog w = .ok (.agg #[.int .i64 0, .int .i64 0, .int .i64 0]) w := fun w => by kernel_rfl
theorem zZ_size : (Value.agg #[.int .i64 0, .int .i64 0, .int .i64 0]).cells.size = 3 := rfl
theorem zZ_one : ∀ u ∈ (Value.agg #[.int .i64 0, .int .i64 0, .int .i64 0]).cells.toList, u.oneCell' = true := by
  intro u hu
  simp [Value.cells] at hu
  subst hu
  rfl
/-- a list without a node -/
def dropN (l : List Sz) (x : Int) : List Sz := l.filter fun y => y.1 != x
theorem dropN_none {l : List Sz} {x : Int} (h : placeOf l x = -1) : dropN l x = l := by
  rcases place_cases l x with ⟨_, h2, _⟩ | ⟨i, y, h2, _⟩
  · rw [List.find?_eq_none] at h2
    unfold dropN
    rw [List.filter_eq_self]
    intro y hy
    have := h2 y hy
    simpa using this
  · omega
/-- the state of a deletion in place: the first i cells are what is kept of the first j -/
def DlR (B : Nat) (w0 : World) (l1 l2 : List Ob) (g n cap : Nat) (L : List Sz) (x : Int) (iv jv : Value) (wr : World) : Prop :=
  ∃ (i j : Nat) (C : List Sz), i < j ∧ j ≤ n ∧ C.length = n ∧ C.take i = dropN (L.take j) x ∧ C.drop j = L.drop j ∧ iv = .int .i64 (i : Int) ∧ jv = .int .i64 (j : Int) ∧ All B w0 (l1 ++ zl (.slice (some ⟨g, 0, none⟩) n cap) C :: l2) wr
theorem dropN_succ {L : List Sz} {j : Nat} {y : Sz} (x : Int) (h : L[j]? = some y) : dropN (L.take (j + 1)) x = dropN (L.take j) x ++ (if y.1 = x then [] else [y]) := by
  unfold dropN
  rw [take_succ_get L j y h, List.filter_append]
  congr 1
  by_cases e : y.1 = x <;> simp [e]
theorem take_first {L : List Sz} {i : Nat} {x : Int} (h : ∀ (j : Nat) (y : Sz), j < i → L[j]? = some y → y.1 ≠ x) (y : Sz) (hy : L[i]? = some y) (hx : y.1 = x) : L.take i = dropN (L.take (i + 1)) x := by
  rw [dropN_succ x hy, if_pos hx, List.append_nil]
  unfold dropN
  symm
  rw [List.filter_eq_self]
  intro z hz
  obtain ⟨j, hj⟩ := List.getElem?_of_mem hz
  have hji : j < i := by have := (List.getElem?_eq_some_iff.1 hj).1; simp at this; omega
  rw [List.getElem?_take, if_pos hji] at hj
  simpa using h j z hji hj
theorem place_first (L : List Sz) (x : Int) {i : Nat} (h : placeOf L x = (i : Int)) : ∀ (j : Nat) (y : Sz), j < i → L[j]? = some y → y.1 ≠ x := by
  intro j y hj hy
  unfold placeOf at h
  split at h
  · rename_i k hk
    rw [List.findIdx?_eq_some_iff_getElem] at hk
    obtain ⟨hk1, hk2, hk3⟩ := hk
    have : k = i := by omega
    subst this
    have h3 := hk3 j hj
    rw [List.getElem?_eq_getElem (by omega)] at hy
    obtain rfl := Option.some.inj hy
    simpa using h3
  · omega

set_option maxRecDepth 100000 in
set_option maxHeartbeats 2000000 in
theorem delete_any {B : Nat} {w0 w : World} {l1 l2 : List Ob} {v : Value} {L : List Sz} {x : Int} {gx : Nat} (h : All B w0 (l1 ++ zl v L :: l2) w) (hm : bk gx [.int .i64 x] 3 ∈ l1) (hl : L.length ≤ 1000000) :
    Calls Try.prog 25 #[v, .func (.func 26) #[] #[.pointer (some ⟨gx, 0, none⟩)]] w fun e w' => ∃ v', e = .returned v' ∧ All B w0 (l1 ++ zl v' (dropN L x) :: l2) w' := by
  have hbx : ∀ (C : Value) (D : List Sz) (w : World), All B w0 (l1 ++ zl C D :: l2) w → w.cell? ⟨gx, 0, none⟩ = some (.int .i64 x) := fun C D w h => by
    have hb : Blk _ _ _ _ := h.P (bk gx [.int .i64 x] 3) (by simp [hm])
    have := hb.cell 0
    simpa using this
  have hO : Own _ _ _ _ _ _ := h.mid
  obtain ⟨va, vc, rfl⟩ := own_shape hO
  have HI := Lib.hid (index2_any hO (hbx _ _ _ h) hl)
  have H := Lib.hid h
  have HX := Lib.hid hbx
  clear h hO hbx
  rcases place_cases L x with ⟨p1, p2, p3⟩ | ⟨i, y, p1, p2, p3, p4, p5⟩
  · rw [p1] at HI
    have HD := Lib.hid (dropN_none p1)
    clear p1 p2 p3
    go_enter Try.func25, Try.ntmps25
    go_wp2_with fail
    refine HI.out.mono ?_
    rintro e w2 ⟨rfl, hb2⟩
    go_wp2_with fail
    go_ret
    exact ⟨_, rfl, by rw [HD.out]; exact H.out.still hb2⟩
  · have hil : i < L.length := (List.getElem?_eq_some_iff.1 p2).1
    have HF := Lib.hid (place_first L x p1)
    have HY := Lib.hid (take_first HF.out y p2 p3)
    rw [p1] at HI
    have hO : Own _ _ _ _ _ _ := H.out.mid
    obtain ⟨g, vc', he, _⟩ := own_some hO (by omega)
    simp only [Value.slice.injEq, true_and] at he
    obtain ⟨rfl, rfl⟩ := he
    have hne1 : ((i : Int) == -1) = false := beq_eq_false_iff_ne.2 (by omega)
    clear p1 p2 p3 p4 p5 hO
    go_enter Try.func25, Try.ntmps25
    go_wp2_with fail
    refine HI.out.mono ?_
    rintro e w2 ⟨rfl, hb2⟩
    have hA2 := H.out.still hb2
    go_wp2_with fail
    generalize hn : L.length = n at *
    have HN := Lib.hid hn
    clear hn
    go_loopw [5, 6] (fun iv jv wr => DlR B w0 l1 l2 g n vc L x iv jv wr) (fun _ jv _ => n - (intOf jv).toNat)
    case atStart => exact ⟨i, i + 1, L, by omega, by omega, HN.out, HY.out, rfl, rfl, by go_num, hA2⟩
    case round =>
      clear hA2 hil HY HF HI
      obtain ⟨i, j, C, hij, hj, hC, ht, hd, rfl, rfl, hA⟩ := hrel
      have HT := Lib.hid ht
      have HD := Lib.hid hd
      have HC := Lib.hid hC
      clear ht hd hC
      by_cases hjn : j < n
      · obtain ⟨y, hy⟩ : ∃ y, L[j]? = some y := ⟨_, List.getElem?_eq_getElem (by rw [HN.out]; exact hjn)⟩
        have hcy : C[j]? = some y := by
          have h1 : (C.drop j)[0]? = (L.drop j)[0]? := by rw [HD.out]
          rw [List.getElem?_drop, List.getElem?_drop] at h1
          rw [Nat.add_zero] at h1
          rw [h1, hy]
        have hO : Own _ _ _ _ _ _ := hA.mid
        obtain ⟨cg, cc, he, ⟨q0, q1, q2⟩, qf, qlt⟩ := z_cells hO hcy
        simp only [Value.slice.injEq, Option.some.injEq, Addr.mk.injEq, and_true] at he
        obtain ⟨rfl, he', rfl⟩ := he
        have hA1 := hA.alloc (.cells #[.int .i64 y.1, .int .i64 y.2.1, .int .i64 y.2.2] 41)
        have HC1 := Lib.hid (without1_any y.1 y.2.1 y.2.2 x gx _ (HX.out _ _ _ hA1))
        have HSu := Lib.hid (dropN_succ x hy)
        have HA1 := Lib.hid hA1
        clear hy hcy hO he' hA hA1
        by_cases hyx : y.1 = x
        · have e1 : (y.1 == x) = true := by simpa using hyx
          rw [e1] at HC1
          rw [if_pos hyx, List.append_nil] at HSu
          clear hyx e1
          go_wp2_with fail
          refine HC1.out.mono ?_
          rintro e w3 ⟨rfl, hb3⟩
          go_wp2_with fail
          go_roundw
          case rel =>
            refine ⟨i, j + 1, C, by omega, by omega, HC.out, by rw [HSu.out]; exact HT.out, ?_, rfl, by go_num, HA1.out.still hb3⟩
            have := congrArg (List.drop 1) HD.out
            rw [List.drop_drop, List.drop_drop] at this
            exact this
          case measure => simp [intOf]; omega
        · have e1 : (y.1 == x) = false := by simpa using hyx
          rw [e1] at HC1
          rw [if_neg hyx] at HSu
          clear hyx e1
          go_wp2_with fail
          refine HC1.out.mono ?_
          rintro e w3 ⟨rfl, hb3⟩
          have hA3 := HA1.out.still hb3
          have hwr : wr.heap.size < w3.heap.size := by have := hb3.size; simp at this; omega
          have d0 := (hb3.cell (p := ⟨wr.heap.size, 0, none⟩) (by simp)).trans (by simp [go_sem] : (wr.alloc (.cells #[.int .i64 y.1, .int .i64 y.2.1, .int .i64 y.2.2] 41)).cell? ⟨wr.heap.size, 0, none⟩ = some (.int .i64 y.1))
          have d1 := (hb3.cell (p := ⟨wr.heap.size, 1, none⟩) (by simp)).trans (by simp [go_sem] : (wr.alloc (.cells #[.int .i64 y.1, .int .i64 y.2.1, .int .i64 y.2.2] 41)).cell? ⟨wr.heap.size, 1, none⟩ = some (.int .i64 y.2.1))
          have d2 := (hb3.cell (p := ⟨wr.heap.size, 2, none⟩) (by simp)).trans (by simp [go_sem] : (wr.alloc (.cells #[.int .i64 y.1, .int .i64 y.2.1, .int .i64 y.2.2] 41)).cell? ⟨wr.heap.size, 2, none⟩ = some (.int .i64 y.2.2))
          have hO : Own _ _ _ _ _ _ := hA3.mid
          obtain ⟨y', hy'⟩ : ∃ y', C[i]? = some y' := ⟨_, List.getElem?_eq_getElem (by rw [HC.out]; omega)⟩
          obtain ⟨cg, cc, he, ⟨q0, q1, q2⟩, qf, qlt⟩ := z_cells hO hy'
          simp only [Value.slice.injEq, Option.some.injEq, Addr.mk.injEq, and_true] at he
          obtain ⟨rfl, he', rfl⟩ := he
          have HA4 := Lib.hid (hA3.setZ l1 HC.out i y (by omega))
          clear hA3 hO he' hb3 hy'
          generalize wr.heap.size = r7 at *
          go_wp2_with fail
          go_roundw
          case rel =>
            refine ⟨i + 1, j + 1, C.set i y, by omega, by omega, by rw [List.length_set]; exact HC.out, ?_, ?_, by go_num, by go_num, HA4.out⟩
            · rw [HSu.out, ← HT.out, List.take_add_one, List.getElem?_set_self (by rw [HC.out]; omega), List.take_set_of_le (Nat.le_refl _)]
              rfl
            · rw [List.drop_set_of_lt (by omega)]
              have := congrArg (List.drop 1) HD.out
              rw [List.drop_drop, List.drop_drop] at this
              exact this
          case measure => simp [intOf]; omega
      · obtain rfl : j = n := by omega
        have HTn : Hid (C.take i = dropN L x) := Lib.hid (by rw [HT.out, List.take_of_length_le (by rw [HN.out]; omega)])
        have hA5 : All B w0 (l1 ++ sl 41 3 (.slice (some ⟨g, 0, none⟩) j vc) j (rows encZ C) :: l2) wr := by
          have : ∀ m, C.length = m → All B w0 (l1 ++ sl 41 3 (.slice (some ⟨g, 0, none⟩) j vc) m (rows encZ C) :: l2) wr := by rintro m rfl; exact hA
          exact this j HC.out
        have hjv : j ≤ vc := by assumption
        have H5 := Lib.hid hA5
        clear hA hA5
        have hij' : i < j := hij
        go_wp2_with (((with_reducible refine wpList_clear_all (i := i) (c := vc - i) etZ.under zeroZ zZ_size (by omega) zZ_one l1 H5.out hij' rfl (.tmp 38) rfl ?_ ?_); (rfl); (intro w6 zs hA6); (have H6 := Lib.hid hA6); (clear hA6)))
        go_ret
        refine ⟨_, rfl, ?_⟩
        have h7 := H6.out.trunc l1 (i := i) (by omega)
        rw [setAll_take, rows_take encZ_len, HTn.out] at h7
        have hlen : (dropN L x).length = i := by rw [← HTn.out, List.length_take, HC.out]; omega
        have key : ∀ m, (dropN L x).length = m → All B w0 (l1 ++ sl 41 3 (.slice (some ⟨g, 0, none⟩) i vc) m (rows encZ (dropN L x)) :: l2) w6 → All B w0 (l1 ++ zl (.slice (some ⟨g, 0, none⟩) i vc) (dropN L x) :: l2) w6 := by rintro m rfl h; exact h
        exact key i hlen h7

/-- what without makes of a list: the objects ahead of it, and behind -/
theorem owithout_any {B : Nat} {w0 w : World} {l1 l2 : List Ob} {v : Value} {L : List Sz} (x : Int) (h : All B w0 (l1 ++ zl v L :: l2) w) (hl : L.length ≤ 1000000) :
    Calls Try.prog 22 #[v, .int .i64 x] w fun e w' => ∃ v', e = .returned v' ∧ All B w0 (l1 ++ zl v' (dropN L x) :: l2) w' := by
  have h1 := h.newBkA w.heap.size rfl [.int .i64 x] 3
  have HD := Lib.hid (delete_any (x := x) (gx := w.heap.size) (l1 := bk w.heap.size [.int .i64 x] 3 :: l1) h1 (by simp) hl)
  clear h h1
  go_enter Try.func22, Try.ntmps22
  go_wp2_with fail
  refine HD.out.mono ?_
  rintro e w2 ⟨v', rfl, hA2⟩
  have HA := Lib.hid hA2.tail
  clear HD hA2
  go_wp2_with fail
  go_ret
  exact ⟨_, rfl, HA.out⟩
end Go.Proofs.Ytfdofkokiaapoaa.W
