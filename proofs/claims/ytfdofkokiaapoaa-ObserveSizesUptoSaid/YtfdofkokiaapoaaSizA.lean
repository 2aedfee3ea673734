/- ObserveSizes in plain Lean: what holds of an observer of sizes all through; steps in memory. -/
import Derived.Test.YtfdofkokiaapoaaObsN
import Derived.Test.YtfdofkokiaapoaaObsG
namespace Go.Proofs.Ytfdofkokiaapoaa.W
open Go.RowKit
set_option linter.unusedVariables false

structure Inv (n : Nat) (z : Zr) : Prop where
  s : Nd z.sz
  e : Nd z.en
  sub : ∀ y ∈ z.en, ∃ x ∈ z.sz, x.1 = y.1
  sl : z.sz.length ≤ n
  el : z.en.length ≤ n * 100
theorem Inv.mono {n m : Nat} {z : Zr} (h : Inv n z) (hm : n ≤ m) : Inv m z := ⟨h.s, h.e, h.sub, Nat.le_trans h.sl hm, Nat.le_trans h.el (Nat.mul_le_mul_right _ hm)⟩
/-- what Measure makes of an observer -/
def Zr.all (L : List Sz) (z : Zr) : Zr := { z with sz := z.sz.map (nowOf L), en := z.sz.foldl (stepE L) z.en }
theorem Inv.all {n : Nat} {z : Zr} (h : Inv n z) (hn : n ≤ 80) (L : List Sz) : Inv (n + 1) (z.all L) := by
  refine ⟨map_now_nd h.s, fold_nd _ h.e, fun y hy => ?_, by have := h.sl; simp [Zr.all]; omega, ?_⟩
  · rcases fold_mem z.sz h.e hy with ⟨h1, _⟩ | ⟨x, hx, _, rfl⟩
    · obtain ⟨x, hx, e⟩ := h.sub y h1
      exact ⟨nowOf L x, List.mem_map.2 ⟨x, hx, rfl⟩, by rw [nowOf_node, e]⟩
    · exact ⟨nowOf L x, List.mem_map.2 ⟨x, hx, rfl⟩, rfl⟩
  · have h1 := fold_len L z.sz z.en
    have := h.sl
    have := h.el
    show (z.sz.foldl (stepE L) z.en).length ≤ _
    omega
theorem place_no {l : List Sz} {x : Int} (h : placeOf l x = -1) : ∀ y ∈ l, y.1 ≠ x := by
  rcases place_cases l x with ⟨_, h2, _⟩ | ⟨i, y, h2, _⟩
  · rw [List.find?_eq_none] at h2
    intro y hy
    simpa using h2 y hy
  · omega
theorem Inv.watch {n : Nat} {z : Zr} (h : Inv n z) {x : Int} (hx : placeOf z.sz x = -1) : Inv (n + 1) (z.watch x) := by
  refine ⟨?_, h.e, fun y hy => ?_, by have := h.sl; simp [Zr.watch]; omega, by have := h.el; show z.en.length ≤ _; omega⟩
  · show (z.sz ++ [(x, -1, -1)]).Pairwise _
    rw [List.pairwise_append]
    refine ⟨h.s, by simp, fun a ha b hb => ?_⟩
    simp at hb
    subst hb
    exact place_no hx a ha
  · obtain ⟨u, hu, e⟩ := h.sub y hy
    exact ⟨u, by simp [Zr.watch, hu], e⟩
theorem Inv.unwatch {n : Nat} {z : Zr} (h : Inv n z) (x : Int) : Inv n (z.unwatch x) := by
  refine ⟨h.s.filter _, h.e.filter _, fun y hy => ?_, Nat.le_trans (dropN_len _ _) h.sl, Nat.le_trans (dropN_len _ _) h.el⟩
  have hy' : y ∈ dropN z.en x := hy
  unfold dropN at hy'
  rw [List.mem_filter] at hy'
  obtain ⟨u, hu, e⟩ := h.sub y hy'.1
  refine ⟨u, ?_, e⟩
  show u ∈ dropN z.sz x
  unfold dropN
  rw [List.mem_filter]
  exact ⟨hu, by rw [e]; exact hy'.2⟩
theorem Inv.absent {n : Nat} {z : Zr} (h : Inv n z) {x : Int} (hx : placeOf z.sz x = -1) : dropN z.sz x = z.sz ∧ dropN z.en x = z.en := by
  refine ⟨dropN_none hx, ?_⟩
  unfold dropN
  rw [List.filter_eq_self]
  intro y hy
  obtain ⟨u, hu, e⟩ := h.sub y hy
  have := place_no hx u hu
  rw [e] at this
  simpa using this
theorem Inv.told {n : Nat} {z : Zr} (h : Inv n z) (i c : Int) : Inv n ⟨i, c, z.sz, []⟩ := ⟨h.s, by simp [Nd], by simp, h.sl, by simp⟩
theorem has_no {l : List Sz} {x : Int} (h : placeOf l x = -1) : decide ((dropN l x).length < l.length) = false := by rw [dropN_none h]; simp
theorem has_yes {l : List Sz} {x : Int} (h : 0 ≤ placeOf l x) : decide ((dropN l x).length < l.length) = true := by
  rw [decide_eq_true_eq]
  unfold dropN
  rw [List.length_filter_lt_length_iff_exists]
  rcases place_cases l x with ⟨h2, _⟩ | ⟨i, y, _, h3, h4, _⟩
  · omega
  · exact ⟨y, List.mem_of_getElem? h3, by simp [h4]⟩

/-- the objects of the law -/
def LS (g zg zc gm : Nat) (M0 M1 : Zr) (a0 b0 a1 b1 s0 e0 s1 e1 : Value) : List Ob :=
  stL g (.slice (some ⟨zg, 0, none⟩) 2 zc) 2 [(M0, a0, b0), (M1, a1, b1)] ++ [bk gm [s0, e0, s1, e1] 47, zl s0 M0.sz, zl e0 M0.en, zl s1 M1.sz, zl e1 M1.en]
/-- what holds before each step -/
def LsR (w : World) (g zg zc gm n : Nat) (wr : World) : Prop :=
  ∃ (M0 M1 : Zr) (a0 b0 a1 b1 s0 e0 s1 e1 : Value), M0.id = 1 ∧ M0.cb = 50 ∧ M1.id = 2 ∧ M1.cb = 51 ∧ Inv n M0 ∧ Inv n M1 ∧ All w.heap.size w (LS g zg zc gm M0 M1 a0 b0 a1 b1 s0 e0 s1 e1) wr
theorem LsR.mono {w wr : World} {g zg zc gm n m : Nat} (h : LsR w g zg zc gm n wr) (hm : n ≤ m) : LsR w g zg zc gm m wr := by
  obtain ⟨M0, M1, a0, b0, a1, b1, s0, e0, s1, e1, h1, h2, h3, h4, h5, h6, h7⟩ := h
  exact ⟨M0, M1, a0, b0, a1, b1, s0, e0, s1, e1, h1, h2, h3, h4, h5.mono hm, h6.mono hm, h7⟩

/-- the pairs that the law compares -/
theorem ls_cells {B : Nat} {w0 w : World} {g zg zc gm j : Nat} {M0 M1 : Zr} {a0 b0 a1 b1 s0 e0 s1 e1 : Value} (h : All B w0 (LS g zg zc gm M0 M1 a0 b0 a1 b1 s0 e0 s1 e1) w) (hj : j < 2) :
    ∃ (L1 L2 : List Sz) (aj bj sj ej : Value), (L1 = M0.sz ∨ L1 = M1.sz) ∧ (L2 = M0.en ∨ L2 = M1.en) ∧ w.cell? ⟨zg, j * 4 + 2, none⟩ = some aj ∧ w.cell? ⟨zg, j * 4 + 3, none⟩ = some bj ∧ w.cell? ⟨gm, j * 2, none⟩ = some sj ∧ w.cell? ⟨gm, j * 2 + 1, none⟩ = some ej ∧
      Own w 41 3 aj L1.length (rows encZ L1) ∧ Own w 41 3 sj L1.length (rows encZ L1) ∧ Own w 41 3 bj L2.length (rows encZ L2) ∧ Own w 41 3 ej L2.length (rows encZ L2) := by
  have hr : Own _ _ _ _ _ _ := h.tail.head
  have bm : Blk w gm [s0, e0, s1, e1] 47 := h.P (bk gm [s0, e0, s1, e1] 47) (by simp [LS])
  have o1 : Own w _ 3 a0 M0.sz.length (rows encZ M0.sz) := h.P (zl a0 M0.sz) (by simp [LS, stL, stObs])
  have o2 : Own w _ 3 b0 M0.en.length (rows encZ M0.en) := h.P (zl b0 M0.en) (by simp [LS, stL, stObs])
  have o3 : Own w _ 3 a1 M1.sz.length (rows encZ M1.sz) := h.P (zl a1 M1.sz) (by simp [LS, stL, stObs])
  have o4 : Own w _ 3 b1 M1.en.length (rows encZ M1.en) := h.P (zl b1 M1.en) (by simp [LS, stL, stObs])
  have p1 : Own w _ 3 s0 M0.sz.length (rows encZ M0.sz) := h.P (zl s0 M0.sz) (by simp [LS])
  have p2 : Own w _ 3 e0 M0.en.length (rows encZ M0.en) := h.P (zl e0 M0.en) (by simp [LS])
  have p3 : Own w _ 3 s1 M1.sz.length (rows encZ M1.sz) := h.P (zl s1 M1.sz) (by simp [LS])
  have p4 : Own w _ 3 e1 M1.en.length (rows encZ M1.en) := h.P (zl e1 M1.en) (by simp [LS])
  have hj' : j = 0 ∨ j = 1 := by omega
  rcases hj' with rfl | rfl
  · exact ⟨M0.sz, M0.en, a0, b0, s0, e0, .inl rfl, .inl rfl, hr.cellAt 2 (by decide), hr.cellAt 3 (by decide), bm.cell 0, bm.cell 1, o1, p1, o2, p2⟩
  · exact ⟨M1.sz, M1.en, a1, b1, s1, e1, .inr rfl, .inr rfl, hr.cellAt 6 (by decide), hr.cellAt 7 (by decide), bm.cell 2, bm.cell 3, o3, p3, o4, p4⟩
theorem perm_ms (A B : Ob) (S R : List Ob) : ([A] ++ (B :: (S ++ R))).Perm (S ++ (R ++ [A, B])) := by
  have h : ((A :: B :: []) ++ (S ++ R)).Perm ((S ++ R) ++ [A, B]) := List.perm_append_comm
  rw [List.append_assoc] at h
  exact h
theorem meas_all (L : List Sz) (z : Zr) : z.meas L z.sz.length = z.all L := by simp [Zr.meas, Zr.all]
theorem map_two {zs' : List Zv} {z z2 : Zr} (h : zs'.map (·.1) = [z, z2]) : ∃ a b a2 b2, zs' = [(z, a, b), (z2, a2, b2)] := by
  match zs', h with
  | [(u, a, b), (u2, a2, b2)], h =>
    simp at h
    obtain ⟨rfl, rfl⟩ := h
    exact ⟨a, b, a2, b2, rfl⟩
theorem All.zsnoc {B : Nat} {w0 w : World} (l1 : List Ob) {l2 : List Ob} {v : Value} {L : List Sz} {y : Sz} (h : All B w0 (l1 ++ sl 41 3 v (L.length + 1) (rows encZ L ++ encZ y) :: l2) w) : All B w0 (l1 ++ zl v (L ++ [y]) :: l2) w := by
  have e1 : (L ++ [y]).length = L.length + 1 := by simp
  have e2 : rows encZ (L ++ [y]) = rows encZ L ++ encZ y := rows_snoc _ _
  show All B w0 (l1 ++ sl _ _ _ (L ++ [y]).length (rows encZ (L ++ [y])) :: l2) w
  rw [e1, e2]
  exact h
theorem next_two0 {M0 M1 : Zr} {a0 b0 a1 b1 : Value} (h0 : M0.id = 1) (h1 : M1.id = 2) (h : 0 < M0.en.length) : nextOf [(M0, a0, b0), (M1, a1, b1)] = M0.id := by
  show nextStep (nextStep 0 M0) M1 = M0.id
  have e : nextStep 0 M0 = M0.id := if_pos ⟨h, .inl rfl⟩
  rw [e]
  exact if_neg (by rw [h0, h1]; simp)
theorem next_two1 {M0 M1 : Zr} {a0 b0 a1 b1 : Value} (hz : M0.en.length = 0) (h : 0 < M1.en.length) : nextOf [(M0, a0, b0), (M1, a1, b1)] = M1.id := by
  show nextStep (nextStep 0 M0) M1 = M1.id
  have e : nextStep 0 M0 = 0 := if_neg (by rw [hz]; simp)
  rw [e]
  exact if_pos ⟨h, .inl rfl⟩
theorem next_two2 {M0 M1 : Zr} {a0 b0 a1 b1 : Value} (hz : M0.en.length = 0) (hz' : M1.en.length = 0) : nextOf [(M0, a0, b0), (M1, a1, b1)] = 0 := by
  show nextStep (nextStep 0 M0) M1 = 0
  have e : nextStep 0 M0 = 0 := if_neg (by rw [hz]; simp)
  rw [e]
  exact if_neg (by rw [hz']; simp)
/-- steps in memory -/
structure Stp where
  kd : Int
  sz : Int
  nd : Int
  A : Option Addr
  L : List Sz
  c : Nat
def InSt (w : World) (A : Option Addr) (l : List Stp) : Prop :=
  (0 < l.length → ∃ b off, A = some ⟨b, off, none⟩ ∧ b < w.heap.size ∧ ∀ (k : Nat) (y : Stp), l[k]? = some y → w.cell? ⟨b, off + k * 4, none⟩ = some (.int .u8 y.kd) ∧ w.cell? ⟨b, off + k * 4 + 1, none⟩ = some (.int .u8 y.sz) ∧ w.cell? ⟨b, off + k * 4 + 2, none⟩ = some (.int .u8 y.nd) ∧ w.cell? ⟨b, off + k * 4 + 3, none⟩ = some (.slice y.A y.L.length y.c)) ∧
  ∀ y ∈ l, InT w y.A y.L ∧ Byt y.L ∧ y.L.length ≤ 2000000 ∧ (0 ≤ y.kd ∧ y.kd ≤ 255) ∧ (0 ≤ y.sz ∧ y.sz ≤ 255) ∧ (0 ≤ y.nd ∧ y.nd ≤ 255)
def LsJ (B : Nat) (w0 : World) (l : List Ob) (iv : Value) (wr : World) : Prop := ∃ j : Nat, j ≤ 2 ∧ iv = .int .i64 (j : Int) ∧ All B w0 l wr
def SzsR (w : World) (g zg zc gm n : Nat) (iv : Value) (wr : World) : Prop := ∃ k : Nat, k ≤ n ∧ iv = .int .i64 (k : Int) ∧ LsR w g zg zc gm k wr
end Go.Proofs.Ytfdofkokiaapoaa.W
