/- Texts joined: ZoE. -/
import Derived.Test.YtfdofkokiaapoaaGreatDoorGv19
import Derived.Test.YtfdofkokiaapoaaGreatDoorGv20
import Derived.Outline
import Derived.IntWalk
import Derived.Deep.DeepCutAuto
import Derived.Deep.RegionHeld3
section
/- The contract of Measure. -/
namespace Go.Proofs.YtfdofkokiaapoaaGreatDoor.W.Z
open Go.RowKit
set_option linter.unusedVariables false

/-- an element of a list of sizes written -/
theorem _root_.Go.Proofs.YtfdofkokiaapoaaGreatDoor.W.All.setZ {B : Nat} {w0 w : World} (l1 : List Ob) {l2 : List Ob} {g n cap : Nat} {L : List Sz} (h : All B w0 (l1 ++ zl (.slice (some ⟨g, 0, none⟩) n cap) L :: l2) w) (hn : L.length = n) (k : Nat) (y : Sz) (hk : k < n) :
    All B w0 (l1 ++ zl (.slice (some ⟨g, 0, none⟩) n cap) (L.set k y) :: l2) (((w.setCell ⟨g, k * 3, none⟩ (.int .i64 y.1)).setCell ⟨g, k * 3 + 1, none⟩ (.int .i64 y.2.1)).setCell ⟨g, k * 3 + 2, none⟩ (.int .i64 y.2.2)) := by
  subst hn
  have hr := rows_set encZ_len L k y hk
  have h3 := ((h.setSl l1 (k * 3) (.int .i64 y.1)).setSl l1 (k * 3 + 1) (.int .i64 y.2.1)).setSl l1 (k * 3 + 2) (.int .i64 y.2.2)
  show All B w0 (l1 ++ sl _ _ _ (L.set k y).length (rows encZ (L.set k y)) :: l2) _
  rw [hr, List.length_set]
  exact h3
/-- the cells of an element of a list of sizes -/
theorem z_cells {w : World} {v : Value} {L : List Sz} {k : Nat} {y : Sz} (h : Own w 67 3 v L.length (rows encZ L)) (hy : L[k]? = some y) : ∃ g cap, v = .slice (some ⟨g, 0, none⟩) L.length cap ∧
    (w.cell? ⟨g, k * 3, none⟩ = some (.int .i64 y.1) ∧ w.cell? ⟨g, k * 3 + 1, none⟩ = some (.int .i64 y.2.1) ∧ w.cell? ⟨g, k * 3 + 2, none⟩ = some (.int .i64 y.2.2)) ∧ (∀ j, w.frozen? ⟨g, j, none⟩ = false) ∧ g < w.heap.size := by
  have hlt : k < L.length := (List.getElem?_eq_some_iff.1 hy).1
  obtain ⟨g, cap, rfl, _⟩ := own_some h (by omega)
  have q0 := h.cellAt (k * 3 + 0) (by omega)
  have q1 := h.cellAt (k * 3 + 1) (by omega)
  have q2 := h.cellAt (k * 3 + 2) (by omega)
  rw [rows_at (enc := encZ) encZ_len L k y hy 0 (by decide)] at q0
  rw [rows_at (enc := encZ) encZ_len L k y hy 1 (by decide)] at q1
  rw [rows_at (enc := encZ) encZ_len L k y hy 2 (by decide)] at q2
  simp only [encZ, List.getElem?_cons_zero, List.getElem?_cons_succ] at q0 q1 q2
  exact ⟨g, cap, rfl, ⟨q0, q1, q2⟩, fun j => h.frozenAt j, own_lt h rfl⟩

theorem stL_splitP (pre : List Ob) (g : Nat) (zv : Value) (nx : Int) (z1 : List Zv) (z : Zv) (z2 : List Zv) (l : List Ob) :
    pre ++ (stL g zv nx (z1 ++ z :: z2) ++ l) = (pre ++ [bk g [.slice none 0 0, zv, .int .i64 nx] 34, sl 96 4 zv (z1 ++ z :: z2).length (rows encS (z1 ++ z :: z2))] ++ stObs z1) ++ (zl z.2.1 z.1.sz :: zl z.2.2 z.1.en :: (stObs z2 ++ l)) := by
  rw [stL_split]; simp
theorem rows_same {z z' : Zr} (d d2 : List Zv) (a b : Value) (h1 : z'.id = z.id) (h2 : z'.cb = z.cb) : rows encS (d ++ (z', a, b) :: d2) = rows encS (d ++ (z, a, b) :: d2) := by
  rw [rows_append, rows_append]
  simp only [rows, encS, h1, h2]
/-- an observer's size written -/
theorem st_elem {B : Nat} {w0 w : World} (pre : List Ob) {g zg zc N n ac ag : Nat} {nx : Int} {d d2 : List Zv} {z : Zr} {b : Value} {l : List Ob}
    (h : All B w0 (pre ++ (stL g (.slice (some ⟨zg, 0, none⟩) N zc) nx (d ++ (z, .slice (some ⟨ag, 0, none⟩) n ac, b) :: d2) ++ l)) w) (hn : z.sz.length = n) (k : Nat) (y : Sz) (hk : k < n) :
    All B w0 (pre ++ (stL g (.slice (some ⟨zg, 0, none⟩) N zc) nx (d ++ ({ z with sz := z.sz.set k y }, .slice (some ⟨ag, 0, none⟩) n ac, b) :: d2) ++ l)) (((w.setCell ⟨ag, k * 3, none⟩ (.int .i64 y.1)).setCell ⟨ag, k * 3 + 1, none⟩ (.int .i64 y.2.1)).setCell ⟨ag, k * 3 + 2, none⟩ (.int .i64 y.2.2)) := by
  rw [stL_splitP] at h ⊢
  rw [rows_same d d2 _ b (z := z) (z' := { z with sz := z.sz.set k y }) rfl rfl, show (d ++ (({ z with sz := z.sz.set k y } : Zr), Value.slice (some ⟨ag, 0, none⟩) n ac, b) :: d2).length = (d ++ (z, Value.slice (some ⟨ag, 0, none⟩) n ac, b) :: d2).length by simp]
  exact h.setZ _ hn k y hk
/-- an observer's entry written -/
theorem st_elemE {B : Nat} {w0 w : World} (pre : List Ob) {g zg zc N n bc bg : Nat} {nx : Int} {d d2 : List Zv} {z : Zr} {a : Value} {l : List Ob}
    (h : All B w0 (pre ++ (stL g (.slice (some ⟨zg, 0, none⟩) N zc) nx (d ++ (z, a, .slice (some ⟨bg, 0, none⟩) n bc) :: d2) ++ l)) w) (hn : z.en.length = n) (k : Nat) (y : Sz) (hk : k < n) :
    All B w0 (pre ++ (stL g (.slice (some ⟨zg, 0, none⟩) N zc) nx (d ++ ({ z with en := z.en.set k y }, a, .slice (some ⟨bg, 0, none⟩) n bc) :: d2) ++ l)) (((w.setCell ⟨bg, k * 3, none⟩ (.int .i64 y.1)).setCell ⟨bg, k * 3 + 1, none⟩ (.int .i64 y.2.1)).setCell ⟨bg, k * 3 + 2, none⟩ (.int .i64 y.2.2)) := by
  rw [stL_splitP] at h ⊢
  rw [rows_same d d2 a _ (z := z) (z' := { z with en := z.en.set k y }) rfl rfl, show (d ++ (({ z with en := z.en.set k y } : Zr), a, Value.slice (some ⟨bg, 0, none⟩) n bc) :: d2).length = (d ++ (z, a, Value.slice (some ⟨bg, 0, none⟩) n bc) :: d2).length by simp]
  have h' : All B w0 (((pre ++ [bk g [.slice none 0 0, .slice (some ⟨zg, 0, none⟩) N zc, .int .i64 nx] 34, sl 96 4 (.slice (some ⟨zg, 0, none⟩) N zc) (d ++ (z, a, Value.slice (some ⟨bg, 0, none⟩) n bc) :: d2).length (rows encS (d ++ (z, a, Value.slice (some ⟨bg, 0, none⟩) n bc) :: d2))] ++ stObs d) ++ [zl a z.sz]) ++ zl (.slice (some ⟨bg, 0, none⟩) n bc) z.en :: (stObs d2 ++ l)) w := by
    rw [List.append_assoc]; exact h
  have h2 := h'.setZ _ hn k y hk
  rw [List.append_assoc] at h2
  exact h2
theorem st_pre {B : Nat} {w0 w : World} (pre : List Ob) {g zg zc N : Nat} {nx : Int} {d d2 : List Zv} {z : Zr} {a b : Value} {l : List Ob}
    (h : All B w0 (pre ++ (stL g (.slice (some ⟨zg, 0, none⟩) N zc) nx (d ++ (z, a, b) :: d2) ++ l)) w) (hN : (d ++ (z, a, b) :: d2).length = N) :
    All B w0 ((pre ++ [bk g [.slice none 0 0, .slice (some ⟨zg, 0, none⟩) N zc, .int .i64 nx] 34, sl 96 4 (.slice (some ⟨zg, 0, none⟩) N zc) N (rows encS (d ++ (z, a, b) :: d2))] ++ stObs d ++ [zl a z.sz]) ++ sl 67 3 b z.en.length (rows encZ z.en) :: (stObs d2 ++ l)) w := by
  rw [stL_splitP, hN] at h
  have e : ∀ (X Y : List Ob) (u v : Ob), (X ++ [u]) ++ v :: Y = X ++ (u :: v :: Y) := by simp
  rw [e]
  exact h
/-- an entry appended -/
theorem st_app {B : Nat} {w0 w : World} (pre : List Ob) {g zg zc N m : Nat} {nx : Int} {d d2 : List Zv} {z : Zr} {a b b' : Value} {l : List Ob} {y : Sz}
    (h : All B w0 ((pre ++ [bk g [.slice none 0 0, .slice (some ⟨zg, 0, none⟩) N zc, .int .i64 nx] 34, sl 96 4 (.slice (some ⟨zg, 0, none⟩) N zc) N (rows encS (d ++ (z, a, b) :: d2))] ++ stObs d ++ [zl a z.sz]) ++ sl 67 3 b' (m + 1) (rows encZ z.en ++ encZ y) :: (stObs d2 ++ l)) w)
    (hN : (d ++ (z, a, b) :: d2).length = N) (hm : z.en.length = m) :
    All B w0 (pre ++ (stL g (.slice (some ⟨zg, 0, none⟩) N zc) nx (d ++ ({ z with en := z.en ++ [y] }, a, b') :: d2) ++ l)) (w.setCell ⟨zg, d.length * 4 + 3, none⟩ b') := by
  rw [stL_splitP]
  have hr := rows_field (enc := encS) encS_len (d ++ (z, a, b) :: d2) d.length 3 _ (({ z with en := z.en ++ [y] } : Zr), a, b') b' (get_mid _ _ _) (by decide) (by simp [encS])
  rw [set_mid] at hr
  have hN' : (d ++ (({ z with en := z.en ++ [y] } : Zr), a, b') :: d2).length = N := by rw [← hN]; simp
  rw [hr, hN']
  have e1 : rows encZ (z.en ++ [y]) = rows encZ z.en ++ encZ y := rows_snoc _ _
  have e2 : (z.en ++ [y]).length = m + 1 := by simp [hm]
  rw [← e1, ← e2] at h
  have h1 : All B w0 ((pre ++ [bk g [.slice none 0 0, .slice (some ⟨zg, 0, none⟩) N zc, .int .i64 nx] 34]) ++ sl 96 4 (.slice (some ⟨zg, 0, none⟩) N zc) N (rows encS (d ++ (z, a, b) :: d2)) :: (stObs d ++ (zl a z.sz :: zl b' (z.en ++ [y]) :: (stObs d2 ++ l)))) w := by
    simp only [List.append_assoc, List.cons_append, List.nil_append] at h ⊢
    exact h
  have h2 := h1.setSl _ (d.length * 4 + 3) b'
  simp only [List.append_assoc, List.cons_append, List.nil_append] at h2 ⊢
  exact h2

/-- an observer once k of its nodes are measured -/
def Zr.meas (L : List Sz) (k : Nat) (z : Zr) : Zr := { z with sz := (z.sz.take k).map (nowOf L) ++ z.sz.drop k, en := (z.sz.take k).foldl (stepE L) z.en }
def MsI (B : Nat) (w0 : World) (g zg zc N : Nat) (nx : Int) (L : List Sz) (d1 d2 : List Zv) (z : Zr) (a : Value) (l : List Ob) (kv : Value) (wr : World) : Prop :=
  ∃ (k : Nat) (b : Value), k ≤ z.sz.length ∧ kv = .int .i64 (k : Int) ∧ All B w0 (stL g (.slice (some ⟨zg, 0, none⟩) N zc) nx (d1 ++ (z.meas L k, a, b) :: d2) ++ l) wr
def MsO (B : Nat) (w0 : World) (g zg zc N : Nat) (nx : Int) (L : List Sz) (zs : List Zv) (l : List Ob) (iv : Value) (wr : World) : Prop :=
  ∃ (i : Nat) (d : List Zv), i ≤ zs.length ∧ iv = .int .i64 (i : Int) ∧ d.map (·.1) = (zs.take i).map (fun z => z.1.meas L z.1.sz.length) ∧ All B w0 (stL g (.slice (some ⟨zg, 0, none⟩) N zc) nx (d ++ zs.drop i) ++ l) wr
theorem meas_zero (L : List Sz) (z : Zr) : z.meas L 0 = z := by simp [Zr.meas]
theorem putEn_len (en : List Sz) (y : Sz) : (putEn en y).length ≤ en.length + 1 := by unfold putEn; split <;> simp
theorem stepE_len (L en : List Sz) (x : Sz) : (stepE L en x).length ≤ en.length + 1 := by
  unfold stepE
  split
  · omega
  · exact putEn_len _ _
theorem fold_len (L : List Sz) : ∀ (xs en : List Sz), (xs.foldl (stepE L) en).length ≤ en.length + xs.length := by
  intro xs
  induction xs with
  | nil => intro en; simp
  | cons x xs ih =>
    intro en
    have := ih (stepE L en x)
    have := stepE_len L en x
    simp
    omega
theorem meas_id (L : List Sz) (k : Nat) (z : Zr) : (z.meas L k).id = z.id ∧ (z.meas L k).cb = z.cb := ⟨rfl, rfl⟩
theorem meas_szlen (L : List Sz) (k : Nat) (z : Zr) (hk : k ≤ z.sz.length) : (z.meas L k).sz.length = z.sz.length := by simp [Zr.meas]; omega
theorem meas_get (L : List Sz) (k : Nat) (z : Zr) (o : Sz) (ho : z.sz[k]? = some o) : (z.meas L k).sz[k]? = some o := by
  have hk : k < z.sz.length := (List.getElem?_eq_some_iff.1 ho).1
  unfold Zr.meas
  simp only
  rw [List.getElem?_append_right (by simp; omega)]
  simp [Nat.min_eq_left (Nat.le_of_lt hk), ho]
theorem meas_succ_sz (L : List Sz) (k : Nat) (z : Zr) (o : Sz) (ho : z.sz[k]? = some o) : (z.meas L (k + 1)).sz = (z.meas L k).sz.set k (nowOf L o) := by
  have hk : k < z.sz.length := (List.getElem?_eq_some_iff.1 ho).1
  have e : z.sz[k] = o := by rw [List.getElem?_eq_getElem hk] at ho; exact Option.some.inj ho
  unfold Zr.meas
  simp only
  rw [List.set_append_right _ _ (by simp; omega), List.take_add_one, ho]
  simp only [List.length_map, List.length_take, Nat.min_eq_left (Nat.le_of_lt hk), Nat.sub_self, Option.toList_some, List.map_append, List.map_cons, List.map_nil, List.append_assoc, List.cons_append, List.nil_append]
  rw [List.drop_eq_getElem_cons hk, List.set_cons_zero]
theorem meas_succ_en (L : List Sz) (k : Nat) (z : Zr) (o : Sz) (ho : z.sz[k]? = some o) : (z.meas L (k + 1)).en = stepE L (z.meas L k).en o := by
  unfold Zr.meas
  simp only
  rw [List.take_add_one, ho]
  simp [List.foldl_append]
theorem meas_same (L : List Sz) (k : Nat) (z : Zr) (o : Sz) (ho : z.sz[k]? = some o) (h : nowOf L o = o) : z.meas L (k + 1) = z.meas L k := by
  have h1 := meas_succ_sz L k z o ho
  have h2 := meas_succ_en L k z o ho
  have h3 := meas_get L k z o ho
  have e1 : (z.meas L (k + 1)).sz = (z.meas L k).sz := by
    rw [h1, h]
    obtain ⟨hk, hk'⟩ := List.getElem?_eq_some_iff.1 h3
    rw [← hk', List.set_getElem_self]
  have e2 : (z.meas L (k + 1)).en = (z.meas L k).en := by
    rw [h2]
    unfold stepE
    rw [if_pos h]
  have : ∀ u v : Zr, u.id = v.id → u.cb = v.cb → u.sz = v.sz → u.en = v.en → u = v := by
    rintro ⟨_, _, _, _⟩ ⟨_, _, _, _⟩ rfl rfl rfl rfl
    rfl
  exact this _ _ rfl rfl e1 e2

theorem meas_put (L : List Sz) (k : Nat) (z : Zr) (o : Sz) (ho : z.sz[k]? = some o) (h : nowOf L o ≠ o) : z.meas L (k + 1) = { z.meas L k with sz := (z.meas L k).sz.set k (nowOf L o), en := putEn (z.meas L k).en (nowOf L o) } := by
  have h1 := meas_succ_sz L k z o ho
  have h2 := meas_succ_en L k z o ho
  unfold stepE at h2
  rw [if_neg h] at h2
  have : ∀ u v : Zr, u.id = v.id → u.cb = v.cb → u.sz = v.sz → u.en = v.en → u = v := by
    rintro ⟨_, _, _, _⟩ ⟨_, _, _, _⟩ rfl rfl rfl rfl
    rfl
  exact this _ _ rfl rfl h1 h2
theorem meas_enlen (L : List Sz) (k : Nat) (z : Zr) (hk : k ≤ z.sz.length) : (z.meas L k).en.length ≤ z.en.length + z.sz.length := by
  have := fold_len L (z.sz.take k) z.en
  have h2 : (z.sz.take k).length ≤ z.sz.length := by simp; omega
  show ((z.sz.take k).foldl (stepE L) z.en).length ≤ _
  omega
theorem ms_facts {B : Nat} {w0 w : World} {g zg zc N i r8 r7 : Nat} {nx : Int} {d d2 : List Zv} {z : Zr} {a b : Value} {l : List Ob} {cs8 cs7 : List Value} {t8 t7 : TypeId}
    (h : All B w0 ([bk r8 cs8 t8, bk r7 cs7 t7] ++ (stL g (.slice (some ⟨zg, 0, none⟩) N zc) nx (d ++ (z, a, b) :: d2) ++ l)) w) (hN : (d ++ (z, a, b) :: d2).length = N) (hi : d.length = i) :
    (w.cell? ⟨zg, i * 4 + 3, none⟩ = some b ∧ (∀ j, w.frozen? ⟨zg, j, none⟩ = false) ∧ zg < w.heap.size ∧ Own w 67 3 b z.en.length (rows encZ z.en)) ∧ (∀ j, w.cell? ⟨r7, j, none⟩ = cs7[j]?) ∧ (∀ j, w.cell? ⟨r8, j, none⟩ = cs8[j]?) ∧ r8 < w.heap.size := by
  subst hN hi
  have b8 : Blk _ _ _ _ := h.head
  have b7 : Blk _ _ _ _ := h.tail.head
  obtain ⟨⟨q0, q1, q2, q3⟩, qf, hzlt, c0, c1, hz1, hz2⟩ := st_cells h.tail.tail
  exact ⟨⟨q3, qf, hzlt, hz2⟩, fun j => b7.cell j, fun j => b8.cell j, b8.lt⟩
theorem st_cell3 {w : World} {zg N zc i : Nat} {d d2 : List Zv} {z : Zr} {a b : Value} (hr : Own w 96 4 (.slice (some ⟨zg, 0, none⟩) N zc) N (rows encS (d ++ (z, a, b) :: d2))) (hN : (d ++ (z, a, b) :: d2).length = N) (hi : d.length = i) :
    w.cell? ⟨zg, i * 4 + 3, none⟩ = some b ∧ (∀ j, w.frozen? ⟨zg, j, none⟩ = false) ∧ zg < w.heap.size := by
  subst hi hN
  have q3 := hr.cellAt (d.length * 4 + 3) (by simp; omega)
  rw [rows_at (enc := encS) encS_len _ d.length _ (get_mid d (z, a, b) d2) 3 (by decide)] at q3
  exact ⟨q3, fun j => hr.frozenAt j, own_lt hr rfl⟩
def MsS (B : Nat) (w0 : World) (l : List Ob) (w : World) : Prop := All B w0 l w

set_option maxRecDepth 100000 in
set_option maxHeartbeats 4000000 in
theorem measure_any {B : Nat} {w0 w : World} {g zg zc N : Nat} {nx : Int} {zs : List Zv} {l : List Ob} {lv : Value} {L : List Sz} (h : All B w0 (stL g (.slice (some ⟨zg, 0, none⟩) N zc) nx zs ++ l) w) (hN : zs.length = N) (hl : N ≤ 1000000) (hL : zl lv L ∈ l) (hLl : L.length ≤ 2000000)
    (hz : ∀ z ∈ zs, z.1.sz.length ≤ 100000 ∧ z.1.en.length ≤ 100000) :
    Calls Tryz.prog 20 #[.pointer (some ⟨g, 0, none⟩), lv] w fun e w' => ∃ zs', e = .returned (.tuple #[]) ∧ zs'.map (·.1) = zs.map (fun z => z.1.meas L z.1.sz.length) ∧ All B w0 (stL g (.slice (some ⟨zg, 0, none⟩) N zc) nx zs' ++ l) w' := by
  have H0 := Lib.hid h
  have HZ := Lib.hid hz
  have HL := Lib.hid hL
  have HN := Lib.hid hN
  have hb : Blk _ _ _ _ := h.head
  have c1 := hb.cell 1
  simp only [List.getElem?_cons_zero, List.getElem?_cons_succ] at c1
  obtain ⟨la, lc, rfl⟩ := own_shape (show Own _ _ _ _ _ _ from h.P (zl lv L) (by simp [hL]))
  clear h hz hL hN hb
  go_enter Tryz.func20, Tryz.ntmps20
  go_wp2_with fail
  go_loopw [16] (fun iv wr => MsO B w0 g zg zc N nx L zs l iv wr) (fun iv _ => N - (intOf iv).toNat)
  case atStart => exact ⟨0, [], Nat.zero_le _, rfl, by simp, H0.out⟩
  case round =>
    clear c1
    obtain ⟨i, d, hi, rfl, hd, hA⟩ := hrel
    have hdl : d.length = i := by have := congrArg List.length hd; simp at this; omega
    by_cases hlt : i < N
    · obtain ⟨⟨z, a, b⟩, hzi⟩ : ∃ z, zs[i]? = some z := ⟨_, List.getElem?_eq_getElem (by rw [HN.out]; exact hlt)⟩
      have hdrop : zs.drop i = (z, a, b) :: zs.drop (i + 1) := by
        obtain ⟨h1, h2⟩ := List.getElem?_eq_some_iff.1 hzi
        rw [List.drop_eq_getElem_cons h1, h2]
      have hb2 := HZ.out _ (List.mem_of_getElem? hzi)
      simp only at hb2
      obtain ⟨hb3, hb4⟩ := hb2
      rw [hdrop] at hA
      have hNd : (d ++ (z, a, b) :: zs.drop (i + 1)).length = N := by have := HN.out; simp; omega
      have hst := st_cells (by rw [hNd]; exact hA)
      rw [hdl, hNd] at hst
      obtain ⟨⟨q0, q1, q2, q3⟩, qf, hzlt, c0, c1, hz1, hz2⟩ := hst
      obtain ⟨aa, ac, rfl⟩ := own_shape hz1
      have HD := Lib.hid hd
      have HDL := Lib.hid hdl
      have HZI := Lib.hid hzi
      have HA := Lib.hid hA
      have HNL := Lib.hid hNd
      clear hd hdl hzi hdrop hz1 hz2 hNd hA
      generalize hd2 : zs.drop (i + 1) = d2 at *
      have HD2 := Lib.hid hd2
      clear hd2
      go_wp2_with fail
      go_loopw [30] (fun kv wr => MsI B w0 g zg zc N nx L d d2 z (.slice aa z.sz.length ac) l kv wr) (fun kv _ => z.sz.length - (intOf kv).toNat)
      case atStart => exact ⟨0, b, Nat.zero_le _, rfl, by rw [meas_zero]; exact HA.out⟩
      case round =>
        clear q0 q1 q2 q3 qf hzlt c0 c1 HA
        obtain ⟨k, b', hk, rfl, hA⟩ := hrel
        have hNd : (d ++ (z.meas L k, Value.slice aa z.sz.length ac, b') :: d2).length = N := by have := HNL.out; simp at this ⊢; exact this
        by_cases hkl : k < z.sz.length
        · obtain ⟨o, ho⟩ : ∃ o, z.sz[k]? = some o := ⟨_, List.getElem?_eq_getElem hkl⟩
          have hst := st_cells (by rw [hNd]; exact hA)
          rw [HDL.out, hNd] at hst
          obtain ⟨⟨q0, q1, q2, q3⟩, qf, hzlt, c0, c1, hz1, hz2⟩ := hst
          obtain ⟨ag, ac', he, ⟨e0, e1, e2⟩, ef, elt⟩ := z_cells hz1 (meas_get L k z o ho)
          simp only [Value.slice.injEq] at he
          obtain ⟨rfl, he', rfl⟩ := he
          clear he'
          have hA1 := ((hA.newBkA wr.heap.size rfl (encZ o) 67).newBkA (wr.heap.size + 1) (by simp) [.int .i64 o.1, .int .i64 0, .int .i64 0] 67)
          have hLo : Own _ _ _ _ _ _ := hA1.P (zl (.slice la L.length lc) L) (by simp [HL.out])
          have HP := Lib.hid (place_any o.1 hLo hLl)
          have HA1 := Lib.hid hA1
          have HO := Lib.hid ho
          have HND := Lib.hid hNd
          clear hz1 hz2 hA hA1 hLo ho hNd c0 c1 q0 q1 q2 q3 qf hzlt
          go_wp2_with fail
          refine HP.out.mono ?_
          rintro e w2 ⟨rfl, hb2⟩
          have hA2 := HA1.out.still hb2
          clear hb2 e0 e1 e2 ef elt HA1 HP
          generalize wr.heap.size = r7 at *
          have b8 : Blk _ _ _ _ := hA2.head
          have b7 : Blk _ _ _ _ := hA2.tail.head
          have m0 := b8.cell 0
          have m1 := b8.cell 1
          have m2 := b8.cell 2
          have mf := b8.free
          have ml := b8.lt
          have o0 := b7.cell 0
          have o1 := b7.cell 1
          have o2 := b7.cell 2
          simp only [encZ, List.getElem?_cons_zero, List.getElem?_cons_succ] at m0 m1 m2 o0 o1 o2
          clear b8 b7
          rcases place_cases L o.1 with ⟨p1, p2, p5⟩ | ⟨m, y, p1, p2, p3, p4, p5⟩
          · have hnw : nowOf L o = (o.1, 0, 0) := by unfold nowOf; rw [p2]
            rw [p1]
            have HA2 : Hid (All B w0 (bk (r7 + 1) (encZ (nowOf L o)) 67 :: bk r7 (encZ o) 67 :: (stL g (.slice (some ⟨zg, 0, none⟩) N zc) nx (d ++ (z.meas L k, Value.slice (some ⟨ag, 0, none⟩) z.sz.length ac, b') :: d2) ++ l)) w2) := Lib.hid (by rw [hnw]; exact hA2)
            clear p1 p2 p5 hA2 hnw
            go_upto_region 11 with (fail)
            clear m0 m1 m2 mf ml o0 o1 o2
            have hn1 := nowOf_node L o
            have HNW := Lib.hid (meas_same L k z o HO.out)
            have HSS := Lib.hid (meas_succ_sz L k z o HO.out)
            have HSE := Lib.hid (meas_succ_en L k z o HO.out)
            have hsl := meas_szlen L k z (by omega)
            by_cases hsm : nowOf L o = o
            · rw [hsm] at HA2
              obtain ⟨k1, k2, k3⟩ := o
              have b8 : Blk _ _ _ _ := HA2.out.head
              have b7 : Blk _ _ _ _ := HA2.out.tail.head
              have m0 := b8.cell 0
              have m1 := b8.cell 1
              have m2 := b8.cell 2
              have o0 := b7.cell 0
              have o1 := b7.cell 1
              have o2 := b7.cell 2
              simp only [encZ, List.getElem?_cons_zero, List.getElem?_cons_succ] at m0 m1 m2 o0 o1 o2
              have HX := Lib.hid (HNW.out hsm)
              clear b8 b7 hsm hn1 hsl
              go_wp2_with fail
              go_roundw
              case rel => exact ⟨k + 1, b', by omega, by go_num, by rw [HX.out]; exact HA2.out.tail.tail⟩
              case measure => simp [intOf]; omega
            · have b8 : Blk _ _ _ _ := HA2.out.head
              have b7 : Blk _ _ _ _ := HA2.out.tail.head
              have m0 := b8.cell 0
              have m1 := b8.cell 1
              have m2 := b8.cell 2
              have o0 := b7.cell 0
              have o1 := b7.cell 1
              have o2 := b7.cell 2
              have hst := st_cells (by rw [HND.out]; exact HA2.out.tail.tail)
              rw [HDL.out, HND.out] at hst
              obtain ⟨⟨q0, q1, q2, q3⟩, qf, hzlt, c0, c1, hz1, hz2⟩ := hst
              obtain ⟨ag', ac', he, ⟨e0, e1, e2⟩, ef, elt⟩ := z_cells hz1 (meas_get L k z o HO.out)
              simp only [Value.slice.injEq, Option.some.injEq, Addr.mk.injEq, and_true] at he
              obtain ⟨rfl, he', rfl⟩ := he
              have hbe : (z.meas L k).en.length ≤ 200000 := by have := meas_enlen L k z (by omega); omega
              have HZE := Lib.hid (meas_put L k z o HO.out hsm)
              have hne : nowOf L o ≠ o := hsm
              obtain ⟨ba, bc, rfl⟩ := own_shape hz2
              clear he' HNW HSS HSE hz1 hz2 q0 q1 c0 c1 HNL
              generalize nowOf L o = nw at *
              generalize z.meas L k = zk at *
              obtain ⟨n1, n2, n3⟩ := nw
              obtain ⟨k1, k2, k3⟩ := o
              simp only at hn1
              subst hn1
              simp only [encZ, List.getElem?_cons_zero, List.getElem?_cons_succ] at m0 m1 m2 o0 o1 o2 e0 e1 e2
              have HA5 := Lib.hid (st_elem [_, _] HA2.out hsl k (n1, n2, n3) hkl)
              have hd23 : ¬ (n2 = k2 ∧ n3 = k3) := fun h => hne (by rw [h.1, h.2])
              have HSL := Lib.hid hsl
              clear b8 b7 hne hsm HA2 hsl
              by_cases h2 : n2 = k2
              · subst h2
                have h3 : ¬ n3 = k3 := fun h => hd23 ⟨rfl, h⟩
                clear hd23
                go_upto_region 12 with (fail)
                clear h3
                go_region
                clear m0 m1 m2 o0 o1 o2 q2 q3 qf hzlt e0 e1 e2 ef elt
                have h4 := HA5.out.drew
                simp only [encZ] at h4
                generalize (((w2.setCell ⟨ag, k * 3, none⟩ (.int .i64 n1)).setCell ⟨ag, k * 3 + 1, none⟩ (.int .i64 n2)).setCell ⟨ag, k * 3 + 2, none⟩ (.int .i64 n3)) = W4 at *
                have OC : ∀ wx, MsS B w0 ([bk (r7 + 1) [.int .i64 n1, .int .i64 n2, .int .i64 n3] 67, bk r7 [.int .i64 n1, .int .i64 n2, .int .i64 k3] 67] ++ (stL g (.slice (some ⟨zg, 0, none⟩) N zc) nx (d ++ ({ zk with sz := zk.sz.set k (n1, n2, n3) }, .slice (some ⟨ag, 0, none⟩) z.sz.length ac, .slice ba zk.en.length bc) :: d2) ++ l)) wx → wx.cell? ⟨zg, i * 4 + 3, none⟩ = some (.slice ba zk.en.length bc) ∧ wx.cell? ⟨r7, 0, none⟩ = some (.int .i64 n1) ∧ Own wx 67 3 (.slice ba zk.en.length bc) zk.en.length (rows encZ zk.en) := by
                  intro wx hx
                  obtain ⟨⟨f1, f2, f3, f4⟩, f5, f6, f7⟩ := ms_facts (show All _ _ _ _ from hx) (by rw [← HND.out]; simp) HDL.out
                  exact ⟨f1, f5 0, f4⟩
                have h5 : MsS B w0 ([bk (r7 + 1) [.int .i64 n1, .int .i64 n2, .int .i64 n3] 67, bk r7 [.int .i64 n1, .int .i64 n2, .int .i64 k3] 67] ++ (stL g (.slice (some ⟨zg, 0, none⟩) N zc) nx (d ++ ({ zk with sz := zk.sz.set k (n1, n2, n3) }, .slice (some ⟨ag, 0, none⟩) z.sz.length ac, .slice ba zk.en.length bc) :: d2) ++ l)) W4.drew := h4
                obtain ⟨LL, hLL⟩ : ∃ LL, ([bk (r7 + 1) [.int .i64 n1, .int .i64 n2, .int .i64 n3] 67, bk r7 [.int .i64 n1, .int .i64 n2, .int .i64 k3] 67] ++ (stL g (.slice (some ⟨zg, 0, none⟩) N zc) nx (d ++ ({ zk with sz := zk.sz.set k (n1, n2, n3) }, .slice (some ⟨ag, 0, none⟩) z.sz.length ac, .slice ba zk.en.length bc) :: d2) ++ l)) = LL := ⟨_, rfl⟩
                rw [hLL] at OC h5
                have HLL := Lib.hid hLL
                have x0 := fun x : InS (MsS B w0 LL) => (OC x.w x.h).1
                have x1 := fun x : InS (MsS B w0 LL) => (OC x.w x.h).2.1
                have hne : Nonempty (InS (MsS B w0 LL)) := ⟨⟨_, h5⟩⟩
                have HOC := Lib.hid OC
                clear OC h4 hLL HA5
                go_wp2_with fail
                refine reg_st (MsS B w0 LL) (fun _ => MsS B w0 LL) (by kernel_rfl) (by kernel_rfl) (by kernel_rfl) (fun _ _ h => h) (All.drew h5) ?_
                repeat (first
                  | (refine st_held (by rfl) (fun K hK => ?_); go_big_quiet_step (fail); refine wpQuiet_nil ?_; refine hK.out _ ?_; clear hK K)
                  | (refine st_skip (by rfl) ?_; simp only [Act.put, List.setIfInBounds_toArray, List.set_cons_zero, List.set_cons_succ]))
                refine st_call (.int .i64 (placeOf zk.en n1)) (by rfl) (by rfl) (fun w => by go_simp; exact ⟨rfl, rfl⟩) ?_ ?_
                · intro w4 h4
                  refine (place_any n1 (HOC.out w4 h4).2.2 (by omega)).mono ?_
                  rintro e w5 ⟨rfl, hb⟩
                  exact ⟨rfl, All.still h4 hb⟩
                simp only [Act.put, List.setIfInBounds_toArray, List.set_cons_zero, List.set_cons_succ]
                repeat (first
                  | (refine st_held (by rfl) (fun K hK => ?_); go_big_quiet_step (fail); refine wpQuiet_nil ?_; refine hK.out _ ?_; clear hK K)
                  | (refine st_skip (by rfl) ?_; simp only [Act.put, List.setIfInBounds_toArray, List.set_cons_zero, List.set_cons_succ]))
                refine st_nil ?_
                intro w5 h6
                have hLL := HLL.out
                subst hLL
                clear x0 x1 hne h5 HOC HLL
                have h6 : All _ _ _ _ := h6
                rcases place_cases zk.en n1 with ⟨p1, p2, p3⟩ | ⟨j, y', p1, p2, p3, p4, p5⟩
                · rw [p1]
                  have HPE : Hid (putEn zk.en (n1, n2, n3) = zk.en ++ [(n1, n2, n3)]) := Lib.hid (by unfold putEn; simp only; rw [p3])
                  have HNN : Hid ((d ++ ({ zk with sz := zk.sz.set k (n1, n2, n3) }, Value.slice (some ⟨ag, 0, none⟩) z.sz.length ac, Value.slice ba zk.en.length bc) :: d2).length = N) := Lib.hid (by rw [← HND.out]; simp)
                  obtain ⟨⟨f1, f2, f3, f4⟩, f5, f6, f7⟩ := ms_facts h6 HNN.out HDL.out
                  have m0 := f6 0
                  have m1 := f6 1
                  have m2 := f6 2
                  simp only [List.getElem?_cons_zero, List.getElem?_cons_succ] at m0 m1 m2
                  have ea : ∀ o, (w5.alloc o).cell? ⟨zg, i * 4 + 3, none⟩ = some (.slice ba zk.en.length bc) := fun o => (World.cell?_alloc_lt _ _ _ f3).trans f1
                  have ea0 : ∀ o, (w5.alloc o).cell? ⟨r7 + 1, 0, none⟩ = some (.int .i64 n1) := fun o => (World.cell?_alloc_lt _ _ _ f7).trans m0
                  have ea1 : ∀ o, (w5.alloc o).cell? ⟨r7 + 1, 1, none⟩ = some (.int .i64 n2) := fun o => (World.cell?_alloc_lt _ _ _ f7).trans m1
                  have ea2 : ∀ o, (w5.alloc o).cell? ⟨r7 + 1, 2, none⟩ = some (.int .i64 n3) := fun o => (World.cell?_alloc_lt _ _ _ f7).trans m2
                  have H9 := Lib.hid ((st_pre [_, _] h6 HNN.out).alloc (.cells #[.int .i64 n1, .int .i64 n2, .int .i64 n3] 67)).drew
                  clear f2 f4 f5 f6 h6 p1 p2 p3
                  go_wp2_with fail
                  go_region_law (first
                    | (refine step_append_all etZ _ H9.out (own_at (w := (w5.alloc _).drew) (n := 1) (size := 3) (Blk.new w5 [.int .i64 n1, .int .i64 n2, .int .i64 n3] 67) rfl (by omega)) (by intro u hu; simp at hu; rcases hu with rfl | rfl | rfl <;> rfl) (by show zk.en.length + 1 ≤ _; omega) (by omega) (by rfl) _ _ (by rfl) (by rfl) (by rfl) ?_; intro v' w6 hA6; have ho : Own _ _ _ _ _ _ := hA6.mid; obtain ⟨va, vc, rfl⟩ := own_shape ho; have hr : Own _ _ _ _ _ _ := hA6.tail.tail.tail.head; obtain ⟨g3, gf, gl⟩ := st_cell3 hr HNN.out HDL.out; have HB := Lib.hid hA6; clear hA6 ho hr))
                  all_goals
                    go_wp2_with fail
                    go_roundw
                    case rel => exact ⟨k + 1, .slice va (zk.en.length + 1) vc, by omega, by go_num, by have h9 := st_app (y := (n1, n2, n3)) [_, _] HB.out HNN.out rfl; rw [HDL.out] at h9; rw [HZE.out, HPE.out]; exact h9.tail.tail⟩
                    case measure => simp [intOf]; omega
                · rw [p1]
                  have HPE : Hid (putEn zk.en (n1, n2, n3) = zk.en.set j (n1, n2, n3)) := Lib.hid (by unfold putEn; simp only; rw [p5])
                  obtain ⟨⟨f1, f2, f3, f4⟩, f5, f6, f7⟩ := ms_facts h6 (by rw [← HND.out]; simp) HDL.out
                  obtain ⟨bg, bc', he, ⟨e0, e1, e2⟩, ef, elt⟩ := z_cells f4 p2
                  have hjl : j < zk.en.length := (List.getElem?_eq_some_iff.1 p2).1
                  simp only [Value.slice.injEq, true_and] at he
                  obtain ⟨rfl, rfl⟩ := he
                  have m0 := f6 0
                  have m1 := f6 1
                  have m2 := f6 2
                  simp only [List.getElem?_cons_zero, List.getElem?_cons_succ] at m0 m1 m2
                  have HB := Lib.hid (st_elemE [_, _] h6 rfl j (n1, n2, n3) hjl).drew
                  clear f2 f3 f4 f5 f6 f7 h6 p1 p2 p3 p4 p5
                  go_wp2_with fail
                  go_region
                  go_wp2_with fail
                  go_roundw
                  case rel => exact ⟨k + 1, _, by omega, by go_num, by rw [HZE.out, HPE.out]; exact HB.out.tail.tail⟩
                  case measure => simp [intOf]; omega
              · clear hd23
                go_upto_region 12 with (fail)
                clear h2
                go_region
                clear m0 m1 m2 o0 o1 o2 q2 q3 qf hzlt e0 e1 e2 ef elt
                have h4 := HA5.out.drew
                simp only [encZ] at h4
                generalize (((w2.setCell ⟨ag, k * 3, none⟩ (.int .i64 n1)).setCell ⟨ag, k * 3 + 1, none⟩ (.int .i64 n2)).setCell ⟨ag, k * 3 + 2, none⟩ (.int .i64 n3)) = W4 at *
                have OC : ∀ wx, MsS B w0 ([bk (r7 + 1) [.int .i64 n1, .int .i64 n2, .int .i64 n3] 67, bk r7 [.int .i64 n1, .int .i64 k2, .int .i64 k3] 67] ++ (stL g (.slice (some ⟨zg, 0, none⟩) N zc) nx (d ++ ({ zk with sz := zk.sz.set k (n1, n2, n3) }, .slice (some ⟨ag, 0, none⟩) z.sz.length ac, .slice ba zk.en.length bc) :: d2) ++ l)) wx → wx.cell? ⟨zg, i * 4 + 3, none⟩ = some (.slice ba zk.en.length bc) ∧ wx.cell? ⟨r7, 0, none⟩ = some (.int .i64 n1) ∧ Own wx 67 3 (.slice ba zk.en.length bc) zk.en.length (rows encZ zk.en) := by
                  intro wx hx
                  obtain ⟨⟨f1, f2, f3, f4⟩, f5, f6, f7⟩ := ms_facts (show All _ _ _ _ from hx) (by rw [← HND.out]; simp) HDL.out
                  exact ⟨f1, f5 0, f4⟩
                have h5 : MsS B w0 ([bk (r7 + 1) [.int .i64 n1, .int .i64 n2, .int .i64 n3] 67, bk r7 [.int .i64 n1, .int .i64 k2, .int .i64 k3] 67] ++ (stL g (.slice (some ⟨zg, 0, none⟩) N zc) nx (d ++ ({ zk with sz := zk.sz.set k (n1, n2, n3) }, .slice (some ⟨ag, 0, none⟩) z.sz.length ac, .slice ba zk.en.length bc) :: d2) ++ l)) W4.drew := h4
                obtain ⟨LL, hLL⟩ : ∃ LL, ([bk (r7 + 1) [.int .i64 n1, .int .i64 n2, .int .i64 n3] 67, bk r7 [.int .i64 n1, .int .i64 k2, .int .i64 k3] 67] ++ (stL g (.slice (some ⟨zg, 0, none⟩) N zc) nx (d ++ ({ zk with sz := zk.sz.set k (n1, n2, n3) }, .slice (some ⟨ag, 0, none⟩) z.sz.length ac, .slice ba zk.en.length bc) :: d2) ++ l)) = LL := ⟨_, rfl⟩
                rw [hLL] at OC h5
                have HLL := Lib.hid hLL
                have x0 := fun x : InS (MsS B w0 LL) => (OC x.w x.h).1
                have x1 := fun x : InS (MsS B w0 LL) => (OC x.w x.h).2.1
                have hne : Nonempty (InS (MsS B w0 LL)) := ⟨⟨_, h5⟩⟩
                have HOC := Lib.hid OC
                clear OC h4 hLL HA5
                go_wp2_with fail
                refine reg_st (MsS B w0 LL) (fun _ => MsS B w0 LL) (by kernel_rfl) (by kernel_rfl) (by kernel_rfl) (fun _ _ h => h) (All.drew h5) ?_
                repeat (first
                  | (refine st_held (by rfl) (fun K hK => ?_); go_big_quiet_step (fail); refine wpQuiet_nil ?_; refine hK.out _ ?_; clear hK K)
                  | (refine st_skip (by rfl) ?_; simp only [Act.put, List.setIfInBounds_toArray, List.set_cons_zero, List.set_cons_succ]))
                refine st_call (.int .i64 (placeOf zk.en n1)) (by rfl) (by rfl) (fun w => by go_simp; exact ⟨rfl, rfl⟩) ?_ ?_
                · intro w4 h4
                  refine (place_any n1 (HOC.out w4 h4).2.2 (by omega)).mono ?_
                  rintro e w5 ⟨rfl, hb⟩
                  exact ⟨rfl, All.still h4 hb⟩
                simp only [Act.put, List.setIfInBounds_toArray, List.set_cons_zero, List.set_cons_succ]
                repeat (first
                  | (refine st_held (by rfl) (fun K hK => ?_); go_big_quiet_step (fail); refine wpQuiet_nil ?_; refine hK.out _ ?_; clear hK K)
                  | (refine st_skip (by rfl) ?_; simp only [Act.put, List.setIfInBounds_toArray, List.set_cons_zero, List.set_cons_succ]))
                refine st_nil ?_
                intro w5 h6
                have hLL := HLL.out
                subst hLL
                clear x0 x1 hne h5 HOC HLL
                have h6 : All _ _ _ _ := h6
                rcases place_cases zk.en n1 with ⟨p1, p2, p3⟩ | ⟨j, y', p1, p2, p3, p4, p5⟩
                · rw [p1]
                  have HPE : Hid (putEn zk.en (n1, n2, n3) = zk.en ++ [(n1, n2, n3)]) := Lib.hid (by unfold putEn; simp only; rw [p3])
                  have HNN : Hid ((d ++ ({ zk with sz := zk.sz.set k (n1, n2, n3) }, Value.slice (some ⟨ag, 0, none⟩) z.sz.length ac, Value.slice ba zk.en.length bc) :: d2).length = N) := Lib.hid (by rw [← HND.out]; simp)
                  obtain ⟨⟨f1, f2, f3, f4⟩, f5, f6, f7⟩ := ms_facts h6 HNN.out HDL.out
                  have m0 := f6 0
                  have m1 := f6 1
                  have m2 := f6 2
                  simp only [List.getElem?_cons_zero, List.getElem?_cons_succ] at m0 m1 m2
                  have ea : ∀ o, (w5.alloc o).cell? ⟨zg, i * 4 + 3, none⟩ = some (.slice ba zk.en.length bc) := fun o => (World.cell?_alloc_lt _ _ _ f3).trans f1
                  have ea0 : ∀ o, (w5.alloc o).cell? ⟨r7 + 1, 0, none⟩ = some (.int .i64 n1) := fun o => (World.cell?_alloc_lt _ _ _ f7).trans m0
                  have ea1 : ∀ o, (w5.alloc o).cell? ⟨r7 + 1, 1, none⟩ = some (.int .i64 n2) := fun o => (World.cell?_alloc_lt _ _ _ f7).trans m1
                  have ea2 : ∀ o, (w5.alloc o).cell? ⟨r7 + 1, 2, none⟩ = some (.int .i64 n3) := fun o => (World.cell?_alloc_lt _ _ _ f7).trans m2
                  have H9 := Lib.hid ((st_pre [_, _] h6 HNN.out).alloc (.cells #[.int .i64 n1, .int .i64 n2, .int .i64 n3] 67)).drew
                  clear f2 f4 f5 f6 h6 p1 p2 p3
                  go_wp2_with fail
                  go_region_law (first
                    | (refine step_append_all etZ _ H9.out (own_at (w := (w5.alloc _).drew) (n := 1) (size := 3) (Blk.new w5 [.int .i64 n1, .int .i64 n2, .int .i64 n3] 67) rfl (by omega)) (by intro u hu; simp at hu; rcases hu with rfl | rfl | rfl <;> rfl) (by show zk.en.length + 1 ≤ _; omega) (by omega) (by rfl) _ _ (by rfl) (by rfl) (by rfl) ?_; intro v' w6 hA6; have ho : Own _ _ _ _ _ _ := hA6.mid; obtain ⟨va, vc, rfl⟩ := own_shape ho; have hr : Own _ _ _ _ _ _ := hA6.tail.tail.tail.head; obtain ⟨g3, gf, gl⟩ := st_cell3 hr HNN.out HDL.out; have HB := Lib.hid hA6; clear hA6 ho hr))
                  all_goals
                    go_wp2_with fail
                    go_roundw
                    case rel => exact ⟨k + 1, .slice va (zk.en.length + 1) vc, by omega, by go_num, by have h9 := st_app (y := (n1, n2, n3)) [_, _] HB.out HNN.out rfl; rw [HDL.out] at h9; rw [HZE.out, HPE.out]; exact h9.tail.tail⟩
                    case measure => simp [intOf]; omega
                · rw [p1]
                  have HPE : Hid (putEn zk.en (n1, n2, n3) = zk.en.set j (n1, n2, n3)) := Lib.hid (by unfold putEn; simp only; rw [p5])
                  obtain ⟨⟨f1, f2, f3, f4⟩, f5, f6, f7⟩ := ms_facts h6 (by rw [← HND.out]; simp) HDL.out
                  obtain ⟨bg, bc', he, ⟨e0, e1, e2⟩, ef, elt⟩ := z_cells f4 p2
                  have hjl : j < zk.en.length := (List.getElem?_eq_some_iff.1 p2).1
                  simp only [Value.slice.injEq, true_and] at he
                  obtain ⟨rfl, rfl⟩ := he
                  have m0 := f6 0
                  have m1 := f6 1
                  have m2 := f6 2
                  simp only [List.getElem?_cons_zero, List.getElem?_cons_succ] at m0 m1 m2
                  have HB := Lib.hid (st_elemE [_, _] h6 rfl j (n1, n2, n3) hjl).drew
                  clear f2 f3 f4 f5 f6 f7 h6 p1 p2 p3 p4 p5
                  go_wp2_with fail
                  go_region
                  go_wp2_with fail
                  go_roundw
                  case rel => exact ⟨k + 1, _, by omega, by go_num, by rw [HZE.out, HPE.out]; exact HB.out.tail.tail⟩
                  case measure => simp [intOf]; omega
          · have hnw : nowOf L o = y := by unfold nowOf; rw [p4]
            rw [p1]
            have hLo : Own _ _ _ _ _ _ := hA2.P (zl (.slice la L.length lc) L) (by simp [HL.out])
            obtain ⟨lg, lc', he, ⟨l0, l1, l2⟩, lf, llt⟩ := z_cells hLo p2
            have hml : m < L.length := (List.getElem?_eq_some_iff.1 p2).1
            simp only [Value.slice.injEq, true_and] at he
            obtain ⟨rfl, rfl⟩ := he
            have hA3 := ((hA2.setBk [] 0 (.int .i64 y.1)).setBk [] 1 (.int .i64 y.2.1)).setBk [] 2 (.int .i64 y.2.2)
            have HA2 : Hid (All B w0 (bk (r7 + 1) (encZ (nowOf L o)) 67 :: bk r7 (encZ o) 67 :: (stL g (.slice (some ⟨zg, 0, none⟩) N zc) nx (d ++ (z.meas L k, Value.slice (some ⟨ag, 0, none⟩) z.sz.length ac, b') :: d2) ++ l)) (((w2.setCell ⟨r7 + 1, 0, none⟩ (.int .i64 y.1)).setCell ⟨r7 + 1, 1, none⟩ (.int .i64 y.2.1)).setCell ⟨r7 + 1, 2, none⟩ (.int .i64 y.2.2))) := Lib.hid (by rw [hnw]; exact hA3)
            clear p1 p2 p3 p4 p5 hA2 hA3 hLo hnw
            go_upto_region 11 with (fail)
            clear m0 m1 m2 mf ml o0 o1 o2 l0 l1 l2 lf llt
            generalize (((w2.setCell ⟨r7 + 1, 0, none⟩ (.int .i64 y.1)).setCell ⟨r7 + 1, 1, none⟩ (.int .i64 y.2.1)).setCell ⟨r7 + 1, 2, none⟩ (.int .i64 y.2.2)) = W at *
            have hn1 := nowOf_node L o
            have HNW := Lib.hid (meas_same L k z o HO.out)
            have HSS := Lib.hid (meas_succ_sz L k z o HO.out)
            have HSE := Lib.hid (meas_succ_en L k z o HO.out)
            have hsl := meas_szlen L k z (by omega)
            by_cases hsm : nowOf L o = o
            · rw [hsm] at HA2
              obtain ⟨k1, k2, k3⟩ := o
              have b8 : Blk _ _ _ _ := HA2.out.head
              have b7 : Blk _ _ _ _ := HA2.out.tail.head
              have m0 := b8.cell 0
              have m1 := b8.cell 1
              have m2 := b8.cell 2
              have o0 := b7.cell 0
              have o1 := b7.cell 1
              have o2 := b7.cell 2
              simp only [encZ, List.getElem?_cons_zero, List.getElem?_cons_succ] at m0 m1 m2 o0 o1 o2
              have HX := Lib.hid (HNW.out hsm)
              clear b8 b7 hsm hn1 hsl
              go_wp2_with fail
              go_roundw
              case rel => exact ⟨k + 1, b', by omega, by go_num, by rw [HX.out]; exact HA2.out.tail.tail⟩
              case measure => simp [intOf]; omega
            · have b8 : Blk _ _ _ _ := HA2.out.head
              have b7 : Blk _ _ _ _ := HA2.out.tail.head
              have m0 := b8.cell 0
              have m1 := b8.cell 1
              have m2 := b8.cell 2
              have o0 := b7.cell 0
              have o1 := b7.cell 1
              have o2 := b7.cell 2
              have hst := st_cells (by rw [HND.out]; exact HA2.out.tail.tail)
              rw [HDL.out, HND.out] at hst
              obtain ⟨⟨q0, q1, q2, q3⟩, qf, hzlt, c0, c1, hz1, hz2⟩ := hst
              obtain ⟨ag', ac', he, ⟨e0, e1, e2⟩, ef, elt⟩ := z_cells hz1 (meas_get L k z o HO.out)
              simp only [Value.slice.injEq, Option.some.injEq, Addr.mk.injEq, and_true] at he
              obtain ⟨rfl, he', rfl⟩ := he
              have hbe : (z.meas L k).en.length ≤ 200000 := by have := meas_enlen L k z (by omega); omega
              have HZE := Lib.hid (meas_put L k z o HO.out hsm)
              have hne : nowOf L o ≠ o := hsm
              obtain ⟨ba, bc, rfl⟩ := own_shape hz2
              clear he' HNW HSS HSE hz1 hz2 q0 q1 c0 c1 HNL
              generalize nowOf L o = nw at *
              generalize z.meas L k = zk at *
              obtain ⟨n1, n2, n3⟩ := nw
              obtain ⟨k1, k2, k3⟩ := o
              simp only at hn1
              subst hn1
              simp only [encZ, List.getElem?_cons_zero, List.getElem?_cons_succ] at m0 m1 m2 o0 o1 o2 e0 e1 e2
              have HA5 := Lib.hid (st_elem [_, _] HA2.out hsl k (n1, n2, n3) hkl)
              have hd23 : ¬ (n2 = k2 ∧ n3 = k3) := fun h => hne (by rw [h.1, h.2])
              have HSL := Lib.hid hsl
              clear b8 b7 hne hsm HA2 hsl
              by_cases h2 : n2 = k2
              · subst h2
                have h3 : ¬ n3 = k3 := fun h => hd23 ⟨rfl, h⟩
                clear hd23
                go_upto_region 12 with (fail)
                clear h3
                go_region
                clear m0 m1 m2 o0 o1 o2 q2 q3 qf hzlt e0 e1 e2 ef elt
                have h4 := HA5.out.drew
                simp only [encZ] at h4
                generalize (((W.setCell ⟨ag, k * 3, none⟩ (.int .i64 n1)).setCell ⟨ag, k * 3 + 1, none⟩ (.int .i64 n2)).setCell ⟨ag, k * 3 + 2, none⟩ (.int .i64 n3)) = W4 at *
                have OC : ∀ wx, MsS B w0 ([bk (r7 + 1) [.int .i64 n1, .int .i64 n2, .int .i64 n3] 67, bk r7 [.int .i64 n1, .int .i64 n2, .int .i64 k3] 67] ++ (stL g (.slice (some ⟨zg, 0, none⟩) N zc) nx (d ++ ({ zk with sz := zk.sz.set k (n1, n2, n3) }, .slice (some ⟨ag, 0, none⟩) z.sz.length ac, .slice ba zk.en.length bc) :: d2) ++ l)) wx → wx.cell? ⟨zg, i * 4 + 3, none⟩ = some (.slice ba zk.en.length bc) ∧ wx.cell? ⟨r7, 0, none⟩ = some (.int .i64 n1) ∧ Own wx 67 3 (.slice ba zk.en.length bc) zk.en.length (rows encZ zk.en) := by
                  intro wx hx
                  obtain ⟨⟨f1, f2, f3, f4⟩, f5, f6, f7⟩ := ms_facts (show All _ _ _ _ from hx) (by rw [← HND.out]; simp) HDL.out
                  exact ⟨f1, f5 0, f4⟩
                have h5 : MsS B w0 ([bk (r7 + 1) [.int .i64 n1, .int .i64 n2, .int .i64 n3] 67, bk r7 [.int .i64 n1, .int .i64 n2, .int .i64 k3] 67] ++ (stL g (.slice (some ⟨zg, 0, none⟩) N zc) nx (d ++ ({ zk with sz := zk.sz.set k (n1, n2, n3) }, .slice (some ⟨ag, 0, none⟩) z.sz.length ac, .slice ba zk.en.length bc) :: d2) ++ l)) W4.drew := h4
                obtain ⟨LL, hLL⟩ : ∃ LL, ([bk (r7 + 1) [.int .i64 n1, .int .i64 n2, .int .i64 n3] 67, bk r7 [.int .i64 n1, .int .i64 n2, .int .i64 k3] 67] ++ (stL g (.slice (some ⟨zg, 0, none⟩) N zc) nx (d ++ ({ zk with sz := zk.sz.set k (n1, n2, n3) }, .slice (some ⟨ag, 0, none⟩) z.sz.length ac, .slice ba zk.en.length bc) :: d2) ++ l)) = LL := ⟨_, rfl⟩
                rw [hLL] at OC h5
                have HLL := Lib.hid hLL
                have x0 := fun x : InS (MsS B w0 LL) => (OC x.w x.h).1
                have x1 := fun x : InS (MsS B w0 LL) => (OC x.w x.h).2.1
                have hne : Nonempty (InS (MsS B w0 LL)) := ⟨⟨_, h5⟩⟩
                have HOC := Lib.hid OC
                clear OC h4 hLL HA5
                go_wp2_with fail
                refine reg_st (MsS B w0 LL) (fun _ => MsS B w0 LL) (by kernel_rfl) (by kernel_rfl) (by kernel_rfl) (fun _ _ h => h) (All.drew h5) ?_
                repeat (first
                  | (refine st_held (by rfl) (fun K hK => ?_); go_big_quiet_step (fail); refine wpQuiet_nil ?_; refine hK.out _ ?_; clear hK K)
                  | (refine st_skip (by rfl) ?_; simp only [Act.put, List.setIfInBounds_toArray, List.set_cons_zero, List.set_cons_succ]))
                refine st_call (.int .i64 (placeOf zk.en n1)) (by rfl) (by rfl) (fun w => by go_simp; exact ⟨rfl, rfl⟩) ?_ ?_
                · intro w4 h4
                  refine (place_any n1 (HOC.out w4 h4).2.2 (by omega)).mono ?_
                  rintro e w5 ⟨rfl, hb⟩
                  exact ⟨rfl, All.still h4 hb⟩
                simp only [Act.put, List.setIfInBounds_toArray, List.set_cons_zero, List.set_cons_succ]
                repeat (first
                  | (refine st_held (by rfl) (fun K hK => ?_); go_big_quiet_step (fail); refine wpQuiet_nil ?_; refine hK.out _ ?_; clear hK K)
                  | (refine st_skip (by rfl) ?_; simp only [Act.put, List.setIfInBounds_toArray, List.set_cons_zero, List.set_cons_succ]))
                refine st_nil ?_
                intro w5 h6
                have hLL := HLL.out
                subst hLL
                clear x0 x1 hne h5 HOC HLL
                have h6 : All _ _ _ _ := h6
                rcases place_cases zk.en n1 with ⟨p1, p2, p3⟩ | ⟨j, y', p1, p2, p3, p4, p5⟩
                · rw [p1]
                  have HPE : Hid (putEn zk.en (n1, n2, n3) = zk.en ++ [(n1, n2, n3)]) := Lib.hid (by unfold putEn; simp only; rw [p3])
                  have HNN : Hid ((d ++ ({ zk with sz := zk.sz.set k (n1, n2, n3) }, Value.slice (some ⟨ag, 0, none⟩) z.sz.length ac, Value.slice ba zk.en.length bc) :: d2).length = N) := Lib.hid (by rw [← HND.out]; simp)
                  obtain ⟨⟨f1, f2, f3, f4⟩, f5, f6, f7⟩ := ms_facts h6 HNN.out HDL.out
                  have m0 := f6 0
                  have m1 := f6 1
                  have m2 := f6 2
                  simp only [List.getElem?_cons_zero, List.getElem?_cons_succ] at m0 m1 m2
                  have ea : ∀ o, (w5.alloc o).cell? ⟨zg, i * 4 + 3, none⟩ = some (.slice ba zk.en.length bc) := fun o => (World.cell?_alloc_lt _ _ _ f3).trans f1
                  have ea0 : ∀ o, (w5.alloc o).cell? ⟨r7 + 1, 0, none⟩ = some (.int .i64 n1) := fun o => (World.cell?_alloc_lt _ _ _ f7).trans m0
                  have ea1 : ∀ o, (w5.alloc o).cell? ⟨r7 + 1, 1, none⟩ = some (.int .i64 n2) := fun o => (World.cell?_alloc_lt _ _ _ f7).trans m1
                  have ea2 : ∀ o, (w5.alloc o).cell? ⟨r7 + 1, 2, none⟩ = some (.int .i64 n3) := fun o => (World.cell?_alloc_lt _ _ _ f7).trans m2
                  have H9 := Lib.hid ((st_pre [_, _] h6 HNN.out).alloc (.cells #[.int .i64 n1, .int .i64 n2, .int .i64 n3] 67)).drew
                  clear f2 f4 f5 f6 h6 p1 p2 p3
                  go_wp2_with fail
                  go_region_law (first
                    | (refine step_append_all etZ _ H9.out (own_at (w := (w5.alloc _).drew) (n := 1) (size := 3) (Blk.new w5 [.int .i64 n1, .int .i64 n2, .int .i64 n3] 67) rfl (by omega)) (by intro u hu; simp at hu; rcases hu with rfl | rfl | rfl <;> rfl) (by show zk.en.length + 1 ≤ _; omega) (by omega) (by rfl) _ _ (by rfl) (by rfl) (by rfl) ?_; intro v' w6 hA6; have ho : Own _ _ _ _ _ _ := hA6.mid; obtain ⟨va, vc, rfl⟩ := own_shape ho; have hr : Own _ _ _ _ _ _ := hA6.tail.tail.tail.head; obtain ⟨g3, gf, gl⟩ := st_cell3 hr HNN.out HDL.out; have HB := Lib.hid hA6; clear hA6 ho hr))
                  all_goals
                    go_wp2_with fail
                    go_roundw
                    case rel => exact ⟨k + 1, .slice va (zk.en.length + 1) vc, by omega, by go_num, by have h9 := st_app (y := (n1, n2, n3)) [_, _] HB.out HNN.out rfl; rw [HDL.out] at h9; rw [HZE.out, HPE.out]; exact h9.tail.tail⟩
                    case measure => simp [intOf]; omega
                · rw [p1]
                  have HPE : Hid (putEn zk.en (n1, n2, n3) = zk.en.set j (n1, n2, n3)) := Lib.hid (by unfold putEn; simp only; rw [p5])
                  obtain ⟨⟨f1, f2, f3, f4⟩, f5, f6, f7⟩ := ms_facts h6 (by rw [← HND.out]; simp) HDL.out
                  obtain ⟨bg, bc', he, ⟨e0, e1, e2⟩, ef, elt⟩ := z_cells f4 p2
                  have hjl : j < zk.en.length := (List.getElem?_eq_some_iff.1 p2).1
                  simp only [Value.slice.injEq, true_and] at he
                  obtain ⟨rfl, rfl⟩ := he
                  have m0 := f6 0
                  have m1 := f6 1
                  have m2 := f6 2
                  simp only [List.getElem?_cons_zero, List.getElem?_cons_succ] at m0 m1 m2
                  have HB := Lib.hid (st_elemE [_, _] h6 rfl j (n1, n2, n3) hjl).drew
                  clear f2 f3 f4 f5 f6 f7 h6 p1 p2 p3 p4 p5
                  go_wp2_with fail
                  go_region
                  go_wp2_with fail
                  go_roundw
                  case rel => exact ⟨k + 1, _, by omega, by go_num, by rw [HZE.out, HPE.out]; exact HB.out.tail.tail⟩
                  case measure => simp [intOf]; omega
              · clear hd23
                go_upto_region 12 with (fail)
                clear h2
                go_region
                clear m0 m1 m2 o0 o1 o2 q2 q3 qf hzlt e0 e1 e2 ef elt
                have h4 := HA5.out.drew
                simp only [encZ] at h4
                generalize (((W.setCell ⟨ag, k * 3, none⟩ (.int .i64 n1)).setCell ⟨ag, k * 3 + 1, none⟩ (.int .i64 n2)).setCell ⟨ag, k * 3 + 2, none⟩ (.int .i64 n3)) = W4 at *
                have OC : ∀ wx, MsS B w0 ([bk (r7 + 1) [.int .i64 n1, .int .i64 n2, .int .i64 n3] 67, bk r7 [.int .i64 n1, .int .i64 k2, .int .i64 k3] 67] ++ (stL g (.slice (some ⟨zg, 0, none⟩) N zc) nx (d ++ ({ zk with sz := zk.sz.set k (n1, n2, n3) }, .slice (some ⟨ag, 0, none⟩) z.sz.length ac, .slice ba zk.en.length bc) :: d2) ++ l)) wx → wx.cell? ⟨zg, i * 4 + 3, none⟩ = some (.slice ba zk.en.length bc) ∧ wx.cell? ⟨r7, 0, none⟩ = some (.int .i64 n1) ∧ Own wx 67 3 (.slice ba zk.en.length bc) zk.en.length (rows encZ zk.en) := by
                  intro wx hx
                  obtain ⟨⟨f1, f2, f3, f4⟩, f5, f6, f7⟩ := ms_facts (show All _ _ _ _ from hx) (by rw [← HND.out]; simp) HDL.out
                  exact ⟨f1, f5 0, f4⟩
                have h5 : MsS B w0 ([bk (r7 + 1) [.int .i64 n1, .int .i64 n2, .int .i64 n3] 67, bk r7 [.int .i64 n1, .int .i64 k2, .int .i64 k3] 67] ++ (stL g (.slice (some ⟨zg, 0, none⟩) N zc) nx (d ++ ({ zk with sz := zk.sz.set k (n1, n2, n3) }, .slice (some ⟨ag, 0, none⟩) z.sz.length ac, .slice ba zk.en.length bc) :: d2) ++ l)) W4.drew := h4
                obtain ⟨LL, hLL⟩ : ∃ LL, ([bk (r7 + 1) [.int .i64 n1, .int .i64 n2, .int .i64 n3] 67, bk r7 [.int .i64 n1, .int .i64 k2, .int .i64 k3] 67] ++ (stL g (.slice (some ⟨zg, 0, none⟩) N zc) nx (d ++ ({ zk with sz := zk.sz.set k (n1, n2, n3) }, .slice (some ⟨ag, 0, none⟩) z.sz.length ac, .slice ba zk.en.length bc) :: d2) ++ l)) = LL := ⟨_, rfl⟩
                rw [hLL] at OC h5
                have HLL := Lib.hid hLL
                have x0 := fun x : InS (MsS B w0 LL) => (OC x.w x.h).1
                have x1 := fun x : InS (MsS B w0 LL) => (OC x.w x.h).2.1
                have hne : Nonempty (InS (MsS B w0 LL)) := ⟨⟨_, h5⟩⟩
                have HOC := Lib.hid OC
                clear OC h4 hLL HA5
                go_wp2_with fail
                refine reg_st (MsS B w0 LL) (fun _ => MsS B w0 LL) (by kernel_rfl) (by kernel_rfl) (by kernel_rfl) (fun _ _ h => h) (All.drew h5) ?_
                repeat (first
                  | (refine st_held (by rfl) (fun K hK => ?_); go_big_quiet_step (fail); refine wpQuiet_nil ?_; refine hK.out _ ?_; clear hK K)
                  | (refine st_skip (by rfl) ?_; simp only [Act.put, List.setIfInBounds_toArray, List.set_cons_zero, List.set_cons_succ]))
                refine st_call (.int .i64 (placeOf zk.en n1)) (by rfl) (by rfl) (fun w => by go_simp; exact ⟨rfl, rfl⟩) ?_ ?_
                · intro w4 h4
                  refine (place_any n1 (HOC.out w4 h4).2.2 (by omega)).mono ?_
                  rintro e w5 ⟨rfl, hb⟩
                  exact ⟨rfl, All.still h4 hb⟩
                simp only [Act.put, List.setIfInBounds_toArray, List.set_cons_zero, List.set_cons_succ]
                repeat (first
                  | (refine st_held (by rfl) (fun K hK => ?_); go_big_quiet_step (fail); refine wpQuiet_nil ?_; refine hK.out _ ?_; clear hK K)
                  | (refine st_skip (by rfl) ?_; simp only [Act.put, List.setIfInBounds_toArray, List.set_cons_zero, List.set_cons_succ]))
                refine st_nil ?_
                intro w5 h6
                have hLL := HLL.out
                subst hLL
                clear x0 x1 hne h5 HOC HLL
                have h6 : All _ _ _ _ := h6
                rcases place_cases zk.en n1 with ⟨p1, p2, p3⟩ | ⟨j, y', p1, p2, p3, p4, p5⟩
                · rw [p1]
                  have HPE : Hid (putEn zk.en (n1, n2, n3) = zk.en ++ [(n1, n2, n3)]) := Lib.hid (by unfold putEn; simp only; rw [p3])
                  have HNN : Hid ((d ++ ({ zk with sz := zk.sz.set k (n1, n2, n3) }, Value.slice (some ⟨ag, 0, none⟩) z.sz.length ac, Value.slice ba zk.en.length bc) :: d2).length = N) := Lib.hid (by rw [← HND.out]; simp)
                  obtain ⟨⟨f1, f2, f3, f4⟩, f5, f6, f7⟩ := ms_facts h6 HNN.out HDL.out
                  have m0 := f6 0
                  have m1 := f6 1
                  have m2 := f6 2
                  simp only [List.getElem?_cons_zero, List.getElem?_cons_succ] at m0 m1 m2
                  have ea : ∀ o, (w5.alloc o).cell? ⟨zg, i * 4 + 3, none⟩ = some (.slice ba zk.en.length bc) := fun o => (World.cell?_alloc_lt _ _ _ f3).trans f1
                  have ea0 : ∀ o, (w5.alloc o).cell? ⟨r7 + 1, 0, none⟩ = some (.int .i64 n1) := fun o => (World.cell?_alloc_lt _ _ _ f7).trans m0
                  have ea1 : ∀ o, (w5.alloc o).cell? ⟨r7 + 1, 1, none⟩ = some (.int .i64 n2) := fun o => (World.cell?_alloc_lt _ _ _ f7).trans m1
                  have ea2 : ∀ o, (w5.alloc o).cell? ⟨r7 + 1, 2, none⟩ = some (.int .i64 n3) := fun o => (World.cell?_alloc_lt _ _ _ f7).trans m2
                  have H9 := Lib.hid ((st_pre [_, _] h6 HNN.out).alloc (.cells #[.int .i64 n1, .int .i64 n2, .int .i64 n3] 67)).drew
                  clear f2 f4 f5 f6 h6 p1 p2 p3
                  go_wp2_with fail
                  go_region_law (first
                    | (refine step_append_all etZ _ H9.out (own_at (w := (w5.alloc _).drew) (n := 1) (size := 3) (Blk.new w5 [.int .i64 n1, .int .i64 n2, .int .i64 n3] 67) rfl (by omega)) (by intro u hu; simp at hu; rcases hu with rfl | rfl | rfl <;> rfl) (by show zk.en.length + 1 ≤ _; omega) (by omega) (by rfl) _ _ (by rfl) (by rfl) (by rfl) ?_; intro v' w6 hA6; have ho : Own _ _ _ _ _ _ := hA6.mid; obtain ⟨va, vc, rfl⟩ := own_shape ho; have hr : Own _ _ _ _ _ _ := hA6.tail.tail.tail.head; obtain ⟨g3, gf, gl⟩ := st_cell3 hr HNN.out HDL.out; have HB := Lib.hid hA6; clear hA6 ho hr))
                  all_goals
                    go_wp2_with fail
                    go_roundw
                    case rel => exact ⟨k + 1, .slice va (zk.en.length + 1) vc, by omega, by go_num, by have h9 := st_app (y := (n1, n2, n3)) [_, _] HB.out HNN.out rfl; rw [HDL.out] at h9; rw [HZE.out, HPE.out]; exact h9.tail.tail⟩
                    case measure => simp [intOf]; omega
                · rw [p1]
                  have HPE : Hid (putEn zk.en (n1, n2, n3) = zk.en.set j (n1, n2, n3)) := Lib.hid (by unfold putEn; simp only; rw [p5])
                  obtain ⟨⟨f1, f2, f3, f4⟩, f5, f6, f7⟩ := ms_facts h6 (by rw [← HND.out]; simp) HDL.out
                  obtain ⟨bg, bc', he, ⟨e0, e1, e2⟩, ef, elt⟩ := z_cells f4 p2
                  have hjl : j < zk.en.length := (List.getElem?_eq_some_iff.1 p2).1
                  simp only [Value.slice.injEq, true_and] at he
                  obtain ⟨rfl, rfl⟩ := he
                  have m0 := f6 0
                  have m1 := f6 1
                  have m2 := f6 2
                  simp only [List.getElem?_cons_zero, List.getElem?_cons_succ] at m0 m1 m2
                  have HB := Lib.hid (st_elemE [_, _] h6 rfl j (n1, n2, n3) hjl).drew
                  clear f2 f3 f4 f5 f6 f7 h6 p1 p2 p3 p4 p5
                  go_wp2_with fail
                  go_region
                  go_wp2_with fail
                  go_roundw
                  case rel => exact ⟨k + 1, _, by omega, by go_num, by rw [HZE.out, HPE.out]; exact HB.out.tail.tail⟩
                  case measure => simp [intOf]; omega
        · obtain rfl : k = z.sz.length := by omega
          have HA2 := Lib.hid hA
          clear hA
          go_wp2_with fail
          go_roundw
          case rel =>
            refine ⟨i + 1, d ++ [(z.meas L z.sz.length, Value.slice aa z.sz.length ac, b')], by have := HN.out; omega, by go_num, ?_, ?_⟩
            · rw [List.map_append, HD.out, List.take_add_one, HZI.out]
              simp
            · rw [List.append_assoc, HD2.out]
              exact HA2.out
          case measure => simp [intOf]; omega
    · have HD := Lib.hid hd
      have HA := Lib.hid hA
      have hi' : i = zs.length := by have := HN.out; omega
      subst hi'
      clear hd hA hdl
      have hc : ¬ zs.length < N := hlt
      go_wp2_with fail
      go_end0
      refine ⟨d, rfl, by rw [HD.out, List.take_length], by have := HA.out; rw [List.drop_length, List.append_nil] at this; exact this⟩
end Go.Proofs.YtfdofkokiaapoaaGreatDoor.W.Z
end
