/- Texts joined: DrF. -/
import Derived.Test.YtacdbnhnhdlmpaaGreatDoorFX3
set_option maxRecDepth 100000
set_option maxHeartbeats 40000000
set_option linter.unusedVariables false
set_option linter.unusedSimpArgs false
section
namespace Go.Proofs.YtacdbnhnhdlmpaaGreatDoor.W
open Go.RowKit
def ShX (X : List FX) : Prop := ∀ x ∈ X, (∃ a n c, x.uv = .slice a n c) ∧ ∃ a n c, x.rv = .slice a n c
theorem drop1_any (yn : Int) (yd : Bool) (yv : List UInt8) (yt yc : Bool) (ys ye : Nat) (a1 : Option Addr) (n1 c1 : Nat) (a2 : Option Addr) (n2 c2 : Nat) (x : Int) (g : Nat) (w : World) (hg : w.cell? ⟨g, 0, none⟩ = some (.int .i64 x)) :
    Calls Tryz.prog 86 #[.agg #[.int .i64 yn, .bool yd, .string ⟨yv.toArray⟩, .bool yt, .bool yc, .int .i64 (ys : Int), .int .i64 (ye : Int), .slice a1 n1 c1, .slice a2 n2 c2], .pointer (some ⟨g, 0, none⟩)] w fun e w' => e = .returned (.bool (yn == x)) ∧ Below w.heap.size w w' := by
  have hlt : g < w.heap.size := World.block_lt_of_cell? w ⟨g, 0, none⟩ hg
  have hne : g ≠ w.heap.size := by omega
  have hal : ∀ o, (w.alloc o).cell? ⟨g, 0, none⟩ = some (.int .i64 x) := fun o => (World.cell?_alloc_lt _ _ _ hlt).trans hg
  go_enter Tryz.func86, Tryz.ntmps86
  go_wp2_with fail
  go_ret
  exact ⟨rfl, (Below.refl _ _).alloc (Nat.le_refl _) _⟩
def placeX (X : List FX) (x : Int) : Int := match fixX X x with | some i => (i : Int) | none => -1
theorem fx_cells {w : World} {v : Value} {L : List FX} {n k : Nat} {y : FX} (h : Own w 119 9 v n (rows fxC L)) (hn : L.length = n) (hy : L[k]? = some y) : ∃ g cap, v = .slice (some ⟨g, 0, none⟩) n cap ∧ (∀ j, j < 9 → w.cell? ⟨g, k * 9 + j, none⟩ = (fxC y)[j]?) ∧ (∀ j, w.frozen? ⟨g, j, none⟩ = false) ∧ g < w.heap.size := by
  have hlt : k < L.length := (List.getElem?_eq_some_iff.1 hy).1
  obtain ⟨g, cap, rfl, _⟩ := own_some h (by omega)
  exact ⟨g, cap, rfl, fun j hj => (h.cellAt (k * 9 + j) (by omega)).trans (rows_at fxC_len L k y hy j hj), fun j => h.frozenAt j, own_lt h rfl⟩
set_option maxRecDepth 100000 in
set_option maxHeartbeats 4000000 in
theorem index_fx {w : World} {v : Value} {L : List FX} {x : Int} {g : Nat} (h : Own w 119 9 v L.length (rows fxC L)) (hsh : ShX L) (hg : w.cell? ⟨g, 0, none⟩ = some (.int .i64 x)) (hl : L.length ≤ 1000000) :
    Calls Tryz.prog 127 #[v, .func (.func 86) #[] #[.pointer (some ⟨g, 0, none⟩)]] w fun e w' => e = .returned (.int .i64 (placeX L x)) ∧ Below w.heap.size w w' := by
  have hlt : g < w.heap.size := World.block_lt_of_cell? w ⟨g, 0, none⟩ hg
  obtain ⟨va, vc, rfl⟩ := own_shapeB h
  have H := Lib.hid h
  have HG := Lib.hid hg
  have HSh := Lib.hid hsh
  clear h hg hsh
  go_enter Tryz.func127, Tryz.ntmps127
  go_wp2_with fail
  go_loopw [8] (fun iv wr => ∃ k : Nat, k ≤ L.length ∧ iv = .int .i64 (k : Int) ∧ (∀ (j : Nat) (z : FX), j < k → L[j]? = some z → z.node ≠ x) ∧ Below w.heap.size w wr) (fun iv _ => L.length - (intOf iv).toNat)
  case atStart => exact ⟨0, Nat.zero_le _, rfl, fun j z hj => absurd hj (Nat.not_lt_zero j), Below.refl _ _⟩
  case round =>
    obtain ⟨k, hk, rfl, hN, hB⟩ := hrel
    have HN := Lib.hid hN
    clear hN
    by_cases hkl : k < L.length
    · obtain ⟨y, hy⟩ : ∃ y, L[k]? = some y := ⟨_, List.getElem?_eq_getElem hkl⟩
      obtain ⟨⟨a1, n1, c1, e1⟩, a2, n2, c2, e2⟩ := HSh.out y (List.mem_of_getElem? hy)
      obtain ⟨cg, cc, he, hq, _, _⟩ := fx_cells (own_keepB H.out hB) rfl hy
      simp only [Value.slice.injEq] at he
      obtain ⟨rfl, _, rfl⟩ := he
      have HY := Lib.hid hy
      clear hy
      obtain ⟨yn, yd, yt, yc, ⟨yv, ys, ye, yu, yr⟩, uv, rv⟩ := y
      simp only at e1 e2
      subst e1 e2
      have q0 := hq 0 (by omega)
      have q1 := hq 1 (by omega)
      have q2 := hq 2 (by omega)
      have q3 := hq 3 (by omega)
      have q4 := hq 4 (by omega)
      have q5 := hq 5 (by omega)
      have q6 := hq 6 (by omega)
      have q7 := hq 7 (by omega)
      have q8 := hq 8 (by omega)
      simp only [fxC, strV, List.getElem?_cons_succ, List.getElem?_cons_zero, Nat.add_zero] at q0 q1 q2 q3 q4 q5 q6 q7 q8
      have HC := Lib.hid (drop1_any yn yd yv yt yc ys ye a1 n1 c1 a2 n2 c2 x g wr ((hB.cell (p := ⟨g, 0, none⟩) hlt).trans HG.out))
      clear hq
      by_cases hyx : yn = x
      · have e1 : (yn == x) = true := by simpa using hyx
        have HP := Lib.hid (show placeX L x = (k : Int) from by unfold placeX; rw [fix_of HY.out hyx HN.out])
        rw [e1] at HC
        clear hyx e1
        go_wp2_with fail
        refine HC.out.mono ?_
        rintro e w2 ⟨rfl, hb2⟩
        go_wp2_with fail
        go_ret
        exact ⟨by rw [HP.out]; rfl, hB.trans (hb2.mono hB.size)⟩
      · have e1 : (yn == x) = false := by simpa using hyx
        have HX := Lib.hid hyx
        rw [e1] at HC
        clear e1 hyx
        go_wp2_with fail
        refine HC.out.mono ?_
        rintro e w2 ⟨rfl, hb2⟩
        go_wp2_with fail
        go_roundw
        case rel =>
          refine ⟨k + 1, by omega, by go_num, fun j z hj hz => ?_, hB.trans (hb2.mono hB.size)⟩
          by_cases e : j = k
          · subst e
            rw [HY.out] at hz
            cases hz
            exact HX.out
          · exact HN.out j z (by omega) hz
        case measure => simp [intOf]; omega
    · have HP := Lib.hid (show placeX L x = -1 from by
        unfold placeX
        cases hf : fixX L x with
        | none => rfl
        | some i =>
          obtain ⟨h1, h2, h3, _⟩ := fix_some hf
          exact absurd h3 (HN.out i _ (by omega) h2))
      go_wp2_with fail
      go_ret
      exact ⟨by rw [HP.out]; rfl, hB⟩
theorem zeroFx : ∀ w, (zeroValue 119).run Tryz.prog w = .ok (.agg #[.int .i64 0, .bool false, .string ⟨#[]⟩, .bool false, .bool false, .int .i64 0, .int .i64 0, .slice none 0 0, .slice none 0 0]) w := fun w => by kernel_rfl
theorem zFx_size : (Value.agg #[.int .i64 0, .bool false, .string ⟨#[]⟩, .bool false, .bool false, .int .i64 0, .int .i64 0, .slice none 0 0, .slice none 0 0]).cells.size = 9 := rfl
theorem zFx_one : ∀ u ∈ (Value.agg #[.int .i64 0, .bool false, .string ⟨#[]⟩, .bool false, .bool false, .int .i64 0, .int .i64 0, .slice none 0 0, .slice none 0 0]).cells.toList, u.oneCell' = true := by
  have h : (Value.agg #[.int .i64 0, .bool false, .string ⟨#[]⟩, .bool false, .bool false, .int .i64 0, .int .i64 0, .slice none 0 0, .slice none 0 0]).cells.toList.all (fun u => u.oneCell') = true := by kernel_rfl
  exact fun u hu => List.all_eq_true.1 h u hu
def dropX (X : List FX) (x : Int) : List FX := X.filter fun y => y.node != x
theorem dropX_none {X : List FX} {x : Int} (h : ∀ y ∈ X, y.node ≠ x) : dropX X x = X := by
  unfold dropX
  rw [List.filter_eq_self]
  intro y hy
  simpa using h y hy
theorem dropX_succ {L : List FX} {j : Nat} {y : FX} (x : Int) (h : L[j]? = some y) : dropX (L.take (j + 1)) x = dropX (L.take j) x ++ (if y.node = x then [] else [y]) := by
  unfold dropX
  rw [List.take_add_one, h, List.filter_append]
  congr 1
  by_cases e : y.node = x <;> simp [e]
theorem takeX_first {L : List FX} {i : Nat} {x : Int} (h : ∀ (j : Nat) (y : FX), j < i → L[j]? = some y → y.node ≠ x) (y : FX) (hy : L[i]? = some y) (hx : y.node = x) : L.take i = dropX (L.take (i + 1)) x := by
  rw [dropX_succ x hy, if_pos hx, List.append_nil]
  symm
  refine dropX_none fun z hz => ?_
  obtain ⟨j, hj⟩ := List.getElem?_of_mem hz
  have hji : j < i := by have := (List.getElem?_eq_some_iff.1 hj).1; simp at this; omega
  rw [List.getElem?_take, if_pos hji] at hj
  exact h j z hji hj
theorem All.setFx {B : Nat} {w0 w : World} (l1 : List Ob) {l2 : List Ob} {g n cap : Nat} {L : List FX} (h : All B w0 (l1 ++ sl 119 9 (.slice (some ⟨g, 0, none⟩) n cap) n (rows fxC L) :: l2) w) (hn : L.length = n) (k : Nat) (y : FX) (hk : k < n) :
    All B w0 (l1 ++ sl 119 9 (.slice (some ⟨g, 0, none⟩) n cap) n (rows fxC (L.set k y)) :: l2) (((((((((w.setCell ⟨g, k * 9, none⟩ (.int .i64 y.node)).setCell ⟨g, k * 9 + 1, none⟩ (.bool y.dirty)).setCell ⟨g, k * 9 + 2, none⟩ (strV y.t.val)).setCell ⟨g, k * 9 + 3, none⟩ (.bool y.touched)).setCell ⟨g, k * 9 + 4, none⟩ (.bool y.checked)).setCell ⟨g, k * 9 + 5, none⟩ (.int .i64 (y.t.st : Int))).setCell ⟨g, k * 9 + 6, none⟩ (.int .i64 (y.t.en : Int))).setCell ⟨g, k * 9 + 7, none⟩ y.uv).setCell ⟨g, k * 9 + 8, none⟩ y.rv) := by
  have hr := rows_set fxC_len L k y (by omega)
  have h3 := ((((((((h.setSl l1 (k * 9) (.int .i64 y.node)).setSl l1 (k * 9 + 1) (.bool y.dirty)).setSl l1 (k * 9 + 2) (strV y.t.val)).setSl l1 (k * 9 + 3) (.bool y.touched)).setSl l1 (k * 9 + 4) (.bool y.checked)).setSl l1 (k * 9 + 5) (.int .i64 (y.t.st : Int))).setSl l1 (k * 9 + 6) (.int .i64 (y.t.en : Int))).setSl l1 (k * 9 + 7) y.uv).setSl l1 (k * 9 + 8) y.rv
  rw [hr]
  exact h3
def DfR (B : Nat) (w0 : World) (l1 l2 : List Ob) (g n cap : Nat) (L : List FX) (x : Int) (iv jv : Value) (wr : World) : Prop :=
  ∃ (i j : Nat) (C : List FX), i < j ∧ j ≤ n ∧ C.length = n ∧ ShX C ∧ C.take i = dropX (L.take j) x ∧ C.drop j = L.drop j ∧ iv = .int .i64 (i : Int) ∧ jv = .int .i64 (j : Int) ∧ All B w0 (l1 ++ sl 119 9 (.slice (some ⟨g, 0, none⟩) n cap) n (rows fxC C) :: l2) wr
theorem ShX.set {C : List FX} (h : ShX C) (i : Nat) {y : FX} (hy : (∃ a n c, y.uv = .slice a n c) ∧ ∃ a n c, y.rv = .slice a n c) : ShX (C.set i y) := fun z hz => by
  rcases List.mem_or_eq_of_mem_set hz with hz | rfl
  · exact h z hz
  · exact hy
set_option maxRecDepth 100000 in
set_option maxHeartbeats 16000000 in
theorem delete_fx {B : Nat} {w0 w : World} {l1 l2 : List Ob} {v : Value} {L : List FX} {x : Int} {gx : Nat} (h : All B w0 (l1 ++ sl 119 9 v L.length (rows fxC L) :: l2) w) (hsh : ShX L) (hm : bk gx [.int .i64 x] 3 ∈ l1) (hl : L.length ≤ 1000000) :
    Calls Tryz.prog 85 #[v, .func (.func 86) #[] #[.pointer (some ⟨gx, 0, none⟩)]] w fun e w' => ∃ v', e = .returned v' ∧ All B w0 (l1 ++ sl 119 9 v' (dropX L x).length (rows fxC (dropX L x)) :: l2) w' := by
  have hbx : ∀ (o : Ob) (w : World), All B w0 (l1 ++ o :: l2) w → w.cell? ⟨gx, 0, none⟩ = some (.int .i64 x) := fun o w h => by
    have hb : Blk _ _ _ _ := h.P (bk gx [.int .i64 x] 3) (by simp [hm])
    have := hb.cell 0
    simpa using this
  have hO : Own w 119 9 v L.length (rows fxC L) := h.mid
  obtain ⟨va, vc, rfl⟩ := own_shapeB hO
  have HI := Lib.hid (index_fx hO hsh (hbx _ _ h) hl)
  have H := Lib.hid h
  have HX := Lib.hid hbx
  have HSh := Lib.hid hsh
  clear h hbx hsh
  unfold placeX at HI
  cases hf : fixX L x with
  | none =>
    rw [hf] at HI
    have HD := Lib.hid (dropX_none (fix_none hf).1)
    clear hf hO
    go_enter Tryz.func85, Tryz.ntmps85
    go_wp2_with fail
    refine HI.out.mono ?_
    rintro e w2 ⟨rfl, hb2⟩
    go_wp2_with fail
    go_ret
    exact ⟨_, rfl, by rw [HD.out]; exact H.out.still hb2⟩
  | some i =>
    rw [hf] at HI
    obtain ⟨hil, p2, p3, p4⟩ := fix_some hf
    have HY := Lib.hid (takeX_first p4 _ p2 p3)
    obtain ⟨g, vc', he, _⟩ := own_some hO (by omega)
    simp only [Value.slice.injEq, true_and] at he
    obtain ⟨rfl, rfl⟩ := he
    have hne1 : ((i : Int) == -1) = false := beq_eq_false_iff_ne.2 (by omega)
    clear p2 p3 p4 hf hO
    go_enter Tryz.func85, Tryz.ntmps85
    go_wp2_with fail
    refine HI.out.mono ?_
    rintro e w2 ⟨rfl, hb2⟩
    have hA2 := H.out.still hb2
    go_wp2_with fail
    generalize hn : L.length = n at *
    have HN := Lib.hid hn
    clear hn
    go_loopw [5, 6] (fun iv jv wr => DfR B w0 l1 l2 g n vc L x iv jv wr) (fun _ jv _ => n - (intOf jv).toNat)
    case atStart => exact ⟨i, i + 1, L, by omega, by omega, HN.out, HSh.out, HY.out, rfl, rfl, by go_num, hA2⟩
    case round =>
      clear hA2 hil HY HI
      obtain ⟨i, j, C, hij, hj, hC, hsC, ht, hd, rfl, rfl, hA⟩ := hrel
      have HT := Lib.hid ht
      have HD := Lib.hid hd
      have HC := Lib.hid hC
      have HSC := Lib.hid hsC
      clear ht hd hC hsC
      by_cases hjn : j < n
      · obtain ⟨y, hy⟩ : ∃ y, L[j]? = some y := ⟨_, List.getElem?_eq_getElem (by rw [HN.out]; exact hjn)⟩
        have hcy : C[j]? = some y := by
          have h1 : (C.drop j)[0]? = (L.drop j)[0]? := by rw [HD.out]
          rw [List.getElem?_drop, List.getElem?_drop] at h1
          rw [Nat.add_zero] at h1
          rw [h1, hy]
        have hshy := HSC.out y (List.mem_of_getElem? hcy)
        obtain ⟨⟨a1, n1, c1, e1⟩, a2, n2, c2, e2⟩ := id hshy
        have hO : Own wr 119 9 (.slice (some ⟨g, 0, none⟩) n vc) n (rows fxC C) := hA.mid
        obtain ⟨cg, cc, he, hq, qf, qlt⟩ := fx_cells hO HC.out hcy
        simp only [Value.slice.injEq, Option.some.injEq, Addr.mk.injEq, and_true] at he
        obtain ⟨rfl, he', rfl⟩ := he
        have HSu := Lib.hid (dropX_succ x hy)
        have HShy := Lib.hid hshy
        clear hy hcy hO he' hshy
        obtain ⟨yn, yd, yt, yc, ⟨yv, ys, ye, yu, yr⟩, uv, rv⟩ := y
        simp only at e1 e2 HSu
        subst e1 e2
        have q0 := hq 0 (by omega)
        have q1 := hq 1 (by omega)
        have q2 := hq 2 (by omega)
        have q3 := hq 3 (by omega)
        have q4 := hq 4 (by omega)
        have q5 := hq 5 (by omega)
        have q6 := hq 6 (by omega)
        have q7 := hq 7 (by omega)
        have q8 := hq 8 (by omega)
        simp only [fxC, strV, List.getElem?_cons_succ, List.getElem?_cons_zero, Nat.add_zero] at q0 q1 q2 q3 q4 q5 q6 q7 q8
        have hA1 := hA.alloc (.cells #[.int .i64 yn, .bool yd, .string ⟨yv.toArray⟩, .bool yt, .bool yc, .int .i64 (ys : Int), .int .i64 (ye : Int), .slice a1 n1 c1, .slice a2 n2 c2] 119)
        have HC1 := Lib.hid (drop1_any yn yd yv yt yc ys ye a1 n1 c1 a2 n2 c2 x gx _ (HX.out _ _ hA1))
        have HA1 := Lib.hid hA1
        have kb := Blk.new wr [.int .i64 yn, .bool yd, .string ⟨yv.toArray⟩, .bool yt, .bool yc, .int .i64 (ys : Int), .int .i64 (ye : Int), .slice a1 n1 c1, .slice a2 n2 c2] 119
        clear hA hA1 hq
        by_cases hyx : yn = x
        · have e1 : (yn == x) = true := by simpa using hyx
          rw [e1] at HC1
          rw [if_pos hyx, List.append_nil] at HSu
          clear hyx e1
          go_wp2_with fail
          refine HC1.out.mono ?_
          rintro e w3 ⟨rfl, hb3⟩
          go_wp2_with fail
          go_roundw
          case rel =>
            refine ⟨i, j + 1, C, by omega, by omega, HC.out, HSC.out, by rw [HSu.out]; exact HT.out, ?_, rfl, by go_num, HA1.out.still hb3⟩
            have := congrArg (List.drop 1) HD.out
            rw [List.drop_drop, List.drop_drop] at this
            exact this
          case measure => simp [intOf]; omega
        · have e1 : (yn == x) = false := by simpa using hyx
          rw [e1] at HC1
          rw [if_neg hyx] at HSu
          clear hyx e1
          go_wp2_with fail
          refine HC1.out.mono ?_
          rintro e w3 ⟨rfl, hb3⟩
          have hA3 := HA1.out.still hb3
          have kb3 := kb.below hb3
          have d0 := kb3.cell 0
          have d1 := kb3.cell 1
          have d2 := kb3.cell 2
          have d3 := kb3.cell 3
          have d4 := kb3.cell 4
          have d5 := kb3.cell 5
          have d6 := kb3.cell 6
          have d7 := kb3.cell 7
          have d8 := kb3.cell 8
          simp only [fxC, strV, List.getElem?_cons_succ, List.getElem?_cons_zero, Nat.add_zero] at d0 d1 d2 d3 d4 d5 d6 d7 d8
          obtain ⟨y', hy'⟩ : ∃ y', C[i]? = some y' := ⟨_, List.getElem?_eq_getElem (by rw [HC.out]; omega)⟩
          have hshy2 := HSC.out y' (List.mem_of_getElem? hy')
          obtain ⟨⟨a3, n3, c3, e3⟩, a4, n4, c4, e4⟩ := hshy2
          have hO : Own w3 119 9 (.slice (some ⟨g, 0, none⟩) n vc) n (rows fxC C) := hA3.mid
          obtain ⟨cg, cc, he, hq2, qf, qlt⟩ := fx_cells hO HC.out hy'
          simp only [Value.slice.injEq, Option.some.injEq, Addr.mk.injEq, and_true] at he
          obtain ⟨rfl, he', rfl⟩ := he
          obtain ⟨zn, zd, zt, zc, ⟨zv, zs, ze, zu, zr⟩, zuv, zrv⟩ := y'
          simp only at e3 e4
          subst e3 e4
          have z0 := hq2 0 (by omega)
          have z1 := hq2 1 (by omega)
          have z2 := hq2 2 (by omega)
          have z3 := hq2 3 (by omega)
          have z4 := hq2 4 (by omega)
          have z5 := hq2 5 (by omega)
          have z6 := hq2 6 (by omega)
          have z7 := hq2 7 (by omega)
          have z8 := hq2 8 (by omega)
          simp only [fxC, strV, List.getElem?_cons_succ, List.getElem?_cons_zero, Nat.add_zero] at z0 z1 z2 z3 z4 z5 z6 z7 z8
          have HA4 := Lib.hid (hA3.setFx l1 HC.out i ⟨yn, yd, yt, yc, ⟨yv, ys, ye, yu, yr⟩, .slice a1 n1 c1, .slice a2 n2 c2⟩ (by omega))
          clear hA3 hO he' hb3 hy' kb kb3 hq2
          generalize wr.heap.size = r7 at *
          go_wp2_with fail
          go_roundw
          case rel =>
            refine ⟨i + 1, j + 1, C.set i ⟨yn, yd, yt, yc, ⟨yv, ys, ye, yu, yr⟩, .slice a1 n1 c1, .slice a2 n2 c2⟩, by omega, by omega, by rw [List.length_set]; exact HC.out, HSC.out.set i HShy.out, ?_, ?_, by go_num, by go_num, HA4.out⟩
            · rw [HSu.out, ← HT.out, List.take_add_one, List.getElem?_set_self (by rw [HC.out]; omega), List.take_set_of_le (Nat.le_refl _)]
              rfl
            · rw [List.drop_set_of_lt (by omega)]
              have := congrArg (List.drop 1) HD.out
              rw [List.drop_drop, List.drop_drop] at this
              exact this
          case measure => simp [intOf]; omega
      · obtain rfl : j = n := by omega
        have HTn : Hid (C.take i = dropX L x) := Lib.hid (by rw [HT.out, List.take_of_length_le (by rw [HN.out]; omega)])
        have hjv : j ≤ vc := by assumption
        have H5 := Lib.hid hA
        clear hA
        have hij' : i < j := hij
        go_wp2_with (((with_reducible refine wpList_clear_all (i := i) (c := vc - i) etF.under zeroFx zFx_size (by omega) zFx_one l1 H5.out hij' rfl (.tmp 38) rfl ?_ ?_); (rfl); (intro w6 zs hA6); (have H6 := Lib.hid hA6); (clear hA6)))
        go_ret
        refine ⟨_, rfl, ?_⟩
        have h7 := H6.out.trunc l1 (i := i) (by omega)
        rw [setAll_take, rows_take fxC_len, HTn.out] at h7
        have hlen : (dropX L x).length = i := by rw [← HTn.out, List.length_take, HC.out]; omega
        rw [hlen]
        exact h7
set_option maxRecDepth 100000 in
set_option maxHeartbeats 4000000 in
theorem drop_any {B : Nat} {w0 w : World} {Q : Nat} {fa : Value} {foc : Int} {X : List FX} {l : List Ob} (h : All B w0 (fsL Q fa foc X ++ l) w) (hsh : ShX X) (x : Int) (hl : X.length ≤ 1000000) :
    Calls Tryz.prog 39 #[.pointer (some ⟨Q, 0, none⟩), .int .i64 x] w fun e w' => e = .returned (.tuple #[]) ∧ ∃ fa', All B w0 (fsL Q fa' (if foc = x then 0 else foc) (dropX X x) ++ l) w' := by
  have h1 := h.newBkA w.heap.size rfl [.int .i64 x] 3
  have HD := Lib.hid (delete_fx (x := x) (gx := w.heap.size) (l1 := [bk w.heap.size [.int .i64 x] 3, bk Q [fa, .int .i64 foc] 30]) (l2 := l) h1 hsh (by simp) hl)
  have kq : Blk _ Q [fa, .int .i64 foc] 30 := h1.tail.head
  obtain ⟨fp, fc, rfl⟩ := own_shapeB (show Own _ 119 9 fa X.length (rows fxC X) from h1.tail.tail.head)
  have q0 := kq.cell 0
  simp only [List.getElem?_cons_succ, List.getElem?_cons_zero] at q0
  obtain ⟨fo, hfo⟩ : ∃ fo, (if foc = x then (0 : Int) else foc) = fo := ⟨_, rfl⟩
  rw [hfo]
  have HFo := Lib.hid hfo
  clear h h1 kq hfo
  go_enter Tryz.func39, Tryz.ntmps39
  go_wp2_with fail
  refine HD.out.mono ?_
  rintro e w2 ⟨v', rfl, hA2⟩
  obtain ⟨va, vc, rfl⟩ := own_shapeB (show Own _ 119 9 v' (dropX X x).length (rows fxC (dropX X x)) from hA2.tail.tail.head)
  have kq : Blk w2 Q [.slice fp X.length fc, .int .i64 foc] 30 := hA2.tail.head
  have kx : Blk w2 w.heap.size [.int .i64 x] 3 := hA2.head
  have hQx : Q ≠ w.heap.size := by
    rintro e
    subst e
    have := (List.pairwise_cons.1 hA2.apart).1 (bk w.heap.size [.slice fp X.length fc, .int .i64 foc] 30) (by simp) w.heap.size rfl
    exact this rfl
  have q0 := kq.cell 0
  have q1 := kq.cell 1
  have f0 := kq.free 0
  have f1 := kq.free 1
  have x0 := kx.cell 0
  simp only [List.getElem?_cons_succ, List.getElem?_cons_zero] at q0 q1 x0
  have hA3 := All.setBk [bk w.heap.size [.int .i64 x] 3] hA2 0 (.slice va (dropX X x).length vc)
  have HA3 := Lib.hid hA3
  have hQl := kq.lt
  clear HD hA2 kq kx hA3
  generalize w.heap.size = r at *
  by_cases hfx : foc = x
  · have e1 : (foc == x) = true := by simpa using hfx
    have HE := Lib.hid (show fo = 0 from by rw [← HFo.out, if_pos hfx])
    clear hfx HFo
    go_upto_region 2 with fail
    go_quiet (fail)
    go_wp2_with fail
    go_end0
    rw [HE.out]
    exact ⟨rfl, _, (All.setBk [bk r [.int .i64 x] 3] (HA3.out.drewN _) 1 (.int .i64 0)).tail⟩
  · have e1 : (foc == x) = false := by simpa using hfx
    have HE := Lib.hid (show fo = foc from by rw [← HFo.out, if_neg hfx])
    clear hfx HFo
    go_upto_region 2 with fail
    go_quiet (fail)
    go_wp2_with fail
    go_end0
    rw [HE.out]
    exact ⟨rfl, _, (HA3.out.tail).drewN _⟩
end Go.Proofs.YtacdbnhnhdlmpaaGreatDoor.W
end
