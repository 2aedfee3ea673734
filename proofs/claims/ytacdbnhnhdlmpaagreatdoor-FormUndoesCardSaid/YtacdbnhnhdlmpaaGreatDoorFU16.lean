/- Texts joined: Fon RoA Frp. -/
import Derived.Test.YtacdbnhnhdlmpaaGreatDoorFU15
import Derived.Test.YtacdbnhnhdlmpaaGreatDoorFU2
import Derived.Test.YtacdbnhnhdlmpaaGreatDoorFU14
set_option maxRecDepth 100000
set_option maxHeartbeats 40000000
set_option linter.unusedVariables false
set_option linter.unusedSimpArgs false
section
namespace Go.Proofs.YtacdbnhnhdlmpaaGreatDoor.W
open Go.RowKit
def edO (u r : Value) (F : FT) : List Ob := [ro 126 5 u F.undo.length (rows encE F.undo), ro 126 5 r F.redo.length (rows encE F.redo)]
def oneL (Q g cap : Nat) (foc : Int) (y : FX) : List Ob := [bk Q [.slice (some ⟨g, 0, none⟩) 1 cap, .int .i64 foc] 30, sl 119 9 (.slice (some ⟨g, 0, none⟩) 1 cap) 1 (fxC y)]
def FsAt (B : Nat) (w0 : World) (Q : Nat) (foc hd : Int) (v : List UInt8) (l : List Ob) (F : FT) (w : World) : Prop :=
  ∃ fa X u r, FInv X hd v ∧ ftX X hd v = F ∧ (getX X hd).uv = u ∧ (getX X hd).rv = r ∧ All B w0 (fsL Q fa foc X ++ (edO u r F ++ l)) w
section
variable {B : Nat} {w0 w : World} {Q R : Nat} {foc hd : Int} {l : List Ob} {O : Ob} {k : Nat} {v : List UInt8} {F : FT}
theorem FsAt.still {w' : World} (h : FsAt B w0 Q foc hd v l F w) (hb : Below w.heap.size w w') : FsAt B w0 Q foc hd v l F w' :=
  let ⟨fa, X, u, r, h1, h2, h3, h4, h5⟩ := h; ⟨fa, X, u, r, h1, h2, h3, h4, h5.still hb⟩
theorem FsAt.rest (h : FsAt B w0 Q foc hd v l F w) : All B w0 l w := by
  obtain ⟨fa, X, u, r, h1, h2, h3, h4, h5⟩ := h
  exact h5.tail.tail.tail.tail
theorem oneL_fs (Q g cap : Nat) (foc : Int) (y : FX) : oneL Q g cap foc y = fsL Q (.slice (some ⟨g, 0, none⟩) 1 cap) foc [y] := by unfold oneL fsL; simp [rows]
theorem FsAt.of {g cap : Nat} {tc ck : Bool} {u r : Value} (h : All B w0 (oneL Q g cap foc ⟨hd, true, tc, ck, F, u, r⟩ ++ (edO u r F ++ l)) w) : FsAt B w0 Q foc hd v l F w := by
  have hf : fixX [⟨hd, true, tc, ck, F, u, r⟩] hd = some 0 := fix_of (x := ⟨hd, true, tc, ck, F, u, r⟩) rfl rfl (fun j _ hj => by omega)
  have hg : getX [⟨hd, true, tc, ck, F, u, r⟩] hd = ⟨hd, true, tc, ck, F, u, r⟩ := (Option.some.inj (fix_some hf).2.1).symm
  rw [oneL_fs] at h
  refine ⟨_, [⟨hd, true, tc, ck, F, u, r⟩], u, r, ⟨.inr ⟨_, rfl, rfl⟩, fun e => ?_⟩, ?_, ?_, ?_, h⟩
  · rw [hg] at e; cases e
  · unfold ftX; rw [hg]; rfl
  · rw [hg]
  · rw [hg]
theorem one_set {g cap : Nat} {y : FX} {l : List Ob} (h : All B w0 (oneL Q g cap foc y ++ l) w) (y' : FX) (j : Nat) (u : Value) (hy : fxC y' = (fxC y).set j u) : All B w0 (oneL Q g cap foc y' ++ l) (w.setCell ⟨g, j, none⟩ u) := by
  have h1 := All.setSl [bk Q [.slice (some ⟨g, 0, none⟩) 1 cap, .int .i64 foc] 30] (l2 := l) h j u
  rw [← hy] at h1
  exact h1
theorem one_cell {g cap : Nat} {y : FX} {l : List Ob} (h : All B w0 (oneL Q g cap foc y ++ l) w) {j : Nat} (hj : j < 9) : w.cell? ⟨g, j, none⟩ = (fxC y)[j]? ∧ w.frozen? ⟨g, j, none⟩ = false := by
  have hs : Own w 119 9 (.slice (some ⟨g, 0, none⟩) 1 cap) 1 (fxC y) := h.tail.head
  exact ⟨hs.cellAt j (by omega), hs.frozenAt _⟩
theorem value_one (h : FsAt B w0 Q foc hd v l F w) (hO : O ∈ l) (hF : FdOk B w0 R O hd k v) (hk : k = 1 ∨ k = 2) :
    Calls Tryz.prog 15 #[.pointer (some ⟨Q, 0, none⟩), .pointer (some ⟨R, 0, none⟩), .int .i64 hd] w fun e w' => e = .returned (.tuple #[.string ⟨F.val.toArray⟩, .int .i64 0]) ∧ Below w.heap.size w w' := by
  obtain ⟨fa, X, u, r, h1, h2, h3, h4, h5⟩ := h
  have := value_any h5 (List.mem_append_right _ (List.mem_append_right _ hO)) hF (by omega) (fun _ => hk) (by have := h1.one.len; omega)
  rwa [valX_ft, h2] at this
theorem selection_one (h : FsAt B w0 Q foc hd v l F w) (hO : O ∈ l) (hF : FdOk B w0 R O hd k v) (hk : k = 1 ∨ k = 2) (hst : F.st ≤ nL F.val) (hen : F.en ≤ nL F.val) (hln : F.val.length ≤ 10000000) :
    Calls Tryz.prog 16 #[.pointer (some ⟨Q, 0, none⟩), .pointer (some ⟨R, 0, none⟩), .int .i64 hd] w fun e w' => e = .returned (.tuple #[.int .i64 (F.st : Int), .int .i64 (F.en : Int), .int .i64 0]) ∧ Below w.heap.size w w' := by
  obtain ⟨fa, X, u, r, h1, h2, h3, h4, h5⟩ := h
  subst h2
  exact selection_any h5 (List.mem_append_right _ (List.mem_append_right _ hO)) hF hk (by have := h1.one.len; omega) hst hen hln
theorem dirty_one (h : FsAt B w0 Q foc hd v l F w) (hO : O ∈ l) (hF : FdOk B w0 R O hd k v) (hv : v.length ≤ 10000000) :
    Calls Tryz.prog 65 #[.pointer (some ⟨Q, 0, none⟩), .pointer (some ⟨R, 0, none⟩), .int .i64 hd] w fun e w' => ∃ g cap tc ck u r, e = .returned (.pointer (some ⟨g, 0, none⟩)) ∧
      All B w0 (oneL Q g cap foc ⟨hd, true, tc, ck, F, u, r⟩ ++ (edO u r F ++ l)) w' := by
  obtain ⟨fa, X, u, r, h1, h2, h3, h4, h5⟩ := h
  refine (dirty_any h5 (List.mem_append_right _ hO) hF (by have := h1.one.len; omega) hv).mono ?_
  rintro e w' ⟨g, cap, rfl, hA⟩
  have hn := dirtX_node (getX X hd) v
  have hu := dirtX_uv (getX X hd) v
  have ht := dirtX_t h1
  rw [get_node] at hn
  rw [h2] at ht
  rw [h3, h4] at hu
  have hi : idxX X hd = 0 := by
    rcases h1.one with rfl | ⟨x, rfl, hx⟩
    · rfl
    · unfold idxX; rw [fix_of (i := 0) (x := x) rfl hx (fun j _ hj => by omega)]; rfl
  have hX := (h1.one.up hn.1).1
  rw [hX] at hA
  generalize dirtX (getX X hd) v = y at *
  obtain ⟨yn, yd, yt, yc, yF, yu, yr⟩ := y
  simp only at hn hu ht
  obtain ⟨rfl, rfl⟩ := hn
  obtain ⟨rfl, rfl⟩ := hu
  subst ht
  rw [hi]
  refine ⟨g, cap, yt, yc, yu, yr, rfl, ?_⟩
  rw [oneL_fs]
  exact hA
set_option maxRecDepth 100000 in
set_option maxHeartbeats 4000000 in
theorem select_one (h : FsAt B w0 Q foc hd v l F w) (hO : O ∈ l) (hF : FdOk B w0 R O hd k v) (hk : k = 1 ∨ k = 2) (hv : v.length ≤ 10000000) (hln : F.val.length ≤ 10000000) (a b : Int) :
    Calls Tryz.prog 19 #[.pointer (some ⟨Q, 0, none⟩), .pointer (some ⟨R, 0, none⟩), .int .i64 hd, .int .i64 a, .int .i64 b] w fun e w' => e = .returned (.int .i64 0) ∧ FsAt B w0 Q foc hd v l (F.sel a b) w' := by
  have HK := Lib.hid (hF.kindA hO h.rest)
  have HW := Lib.hid (written_yes hk)
  have HDi := Lib.hid (fun wx (hb : Below w.heap.size w wx) => dirty_one (h.still hb) hO hF hv)
  have HLe := Lib.hid (fun wx => len_n F.val wx hln)
  clear h hF hO
  go_enter Tryz.func19, Tryz.ntmps19
  go_wp2_with fail
  refine HK.out.mono ?_
  rintro e w1 ⟨rfl, hb1⟩
  go_wp2_with fail
  refine (HW.out _).mono ?_
  rintro e w2 ⟨rfl, hw⟩
  subst hw
  go_wp2_with fail
  refine (HDi.out _ hb1).mono ?_
  rintro e w3 ⟨g, cap, tc, ck, u, r, rfl, hA⟩
  obtain ⟨c2, f2⟩ := one_cell hA (j := 2) (by omega)
  rw [show (fxC ⟨hd, true, tc, ck, F, u, r⟩)[2]? = some (.string ⟨F.val.toArray⟩) from rfl] at c2
  have HA := Lib.hid hA
  clear hA hb1
  go_wp2_with fail
  refine (HLe.out _).mono ?_
  rintro e w4 ⟨rfl, hb4⟩
  have hA4 := HA.out.still hb4
  obtain ⟨c5, f5⟩ := one_cell hA4 (j := 5) (by omega)
  obtain ⟨c6, f6⟩ := one_cell hA4 (j := 6) (by omega)
  have hA5 := one_set hA4 ⟨hd, true, tc, ck, { F with st := (F.sel a b).st }, u, r⟩ 5 (.int .i64 (min (max a 0) (nL F.val : Int))) (by
    simp only [fxC, List.set_cons_succ, List.set_cons_zero, FT.sel]
    rw [Int.toNat_of_nonneg (by omega)])
  have hA6 := one_set hA5 ⟨hd, true, tc, ck, F.sel a b, u, r⟩ 6 (.int .i64 (max (min (max b 0) (nL F.val : Int)) (min (max a 0) (nL F.val : Int)))) (by
    simp only [fxC, List.set_cons_succ, List.set_cons_zero, FT.sel]
    rw [Int.toNat_of_nonneg (by omega), Int.toNat_of_nonneg (by omega)])
  have HA6 := Lib.hid hA6
  have hnn : (nL F.val : Int) ≤ 10000000 := by have := nL_le F.val; omega
  clear hA4 hA5 hA6 hb4 c2 f2 HA
  go_wp2_with fail
  go_ret
  exact ⟨rfl, FsAt.of HA6.out⟩
end
theorem run_append_roA {P : Program} {t ty e : TypeId} {size bytes : Nat} (hT : ET P t e size bytes) {B : Nat} {w0 w : World} (l1 : List Ob) {l2 : List Ob} {dv : Value} {n : Nat} {xs : List Value}
    (h : All B w0 (l1 ++ ro e size dv n xs :: l2) w) {sv : Value} {m : Nat} {ys : List Value} (hs : Own w e size sv m ys) (hm : 0 < m) (h1 : ∀ u ∈ ys, u.oneCell' = true) (hlen : n + m ≤ 1000000000) (hby : bytes ≤ 1000) :
    ∃ v' w', (Builtin.append_ #[t, t] ty #[dv, sv]).run P w = .ok v' w' ∧ All B w0 (l1 ++ ro e size v' (n + m) (xs ++ ys) :: l2) w' := by
  have hR : Ro w e size dv n xs := h.mid
  obtain ⟨g, cap, rfl, _⟩ := own_some hs hm
  obtain ⟨v', w', hr, h2, h3, h4⟩ := run_append_ro (P := P) (ty := ty) hT hR (ad := ⟨g, 0, none⟩) (m := m) (c := cap) hs.1 (own_news hs) h1 hm hlen hby
  exact ⟨v', w', hr, h.step l1 (o' := ro e size v' (n + m) (xs ++ ys)) h2 h3 h4⟩
theorem wp_append_roA {P : Program} {t e : TypeId} {size bytes : Nat} (hT : ET P t e size bytes) {B : Nat} {w0 w : World} (l1 : List Ob) {l2 : List Ob} {dv : Value} {n : Nat} {xs : List Value}
    (h : All B w0 (l1 ++ ro e size dv n xs :: l2) w) {sv : Value} {m : Nat} {ys : List Value} (hs : Own w e size sv m ys) (hm : 0 < m) (h1 : ∀ u ∈ ys, u.oneCell' = true) (hlen : n + m ≤ 1000000000) (hby : bytes ≤ 1000)
    {o : Oper} {a : Act} {K : Act → World → Prop} {Q : Exit → Act → World → Prop} (s x : Operand) (ho : o.op = .call { callee := .builtin .append, args := #[s, x], argTypes := #[t, t] }) (hd : a.eval s = dv) (hx : a.eval x = sv)
    (hc : ∀ v' w', All B w0 (l1 ++ ro e size v' (n + m) (xs ++ ys) :: l2) w' → K (a.put o.dst v') w') : o.wp P a w K Q := by
  obtain ⟨v', w', hr, h2⟩ := run_append_roA (ty := o.type) hT l1 h hs hm h1 hlen hby
  unfold Oper.wp execOp
  simp only [ho, resolve, invoke, builtin, Sem.run_bind, Sem.run_pure, Result.andThen_ok, List.map_toArray, List.map_cons, List.map_nil, hd, hx, hr]
  exact hc v' w' h2
theorem wpList_append_roA {P : Program} {t e : TypeId} {size bytes : Nat} (hT : ET P t e size bytes) {B : Nat} {w0 w : World} (l1 : List Ob) {l2 : List Ob} {dv : Value} {n : Nat} {xs : List Value}
    (h : All B w0 (l1 ++ ro e size dv n xs :: l2) w) {sv : Value} {m : Nat} {ys : List Value} (hs : Own w e size sv m ys) (hm : 0 < m) (h1 : ∀ u ∈ ys, u.oneCell' = true) (hlen : n + m ≤ 1000000000) (hby : bytes ≤ 1000)
    {ops : Array Oper} {rest : List Oper} {o : Oper} {a : Act} {Q : Exit → Act → World → Prop} (hgd : o.guard = none) (s x : Operand) (ho : o.op = .call { callee := .builtin .append, args := #[s, x], argTypes := #[t, t] }) (hd : a.eval s = dv) (hx : a.eval x = sv)
    (hc : ∀ v' w', All B w0 (l1 ++ ro e size v' (n + m) (xs ++ ys) :: l2) w' → wpList P ops Q rest (a.put o.dst v') w') : wpList P ops Q (o :: rest) a w :=
  wpList_plain hgd fun K hK => wp_append_roA hT l1 h hs hm h1 hlen hby s x ho hd hx fun v' w' h' => hK _ _ (hc v' w' h')
theorem step_append_roA {P : Program} {t e : TypeId} {size bytes : Nat} (hT : ET P t e size bytes) {B : Nat} {w0 w : World} (l1 : List Ob) {l2 : List Ob} {dv : Value} {n : Nat} {xs : List Value}
    (h : All B w0 (l1 ++ ro e size dv n xs :: l2) w) {sv : Value} {m : Nat} {ys : List Value} (hs : Own w e size sv m ys) (hm : 0 < m) (h1 : ∀ u ∈ ys, u.oneCell' = true) (hlen : n + m ≤ 1000000000) (hby : bytes ≤ 1000)
    {ops : Array Oper} {E : Prop} {o : Oper} {a : Act} {K : Act → World → Prop} {Q : Exit → Act → World → Prop} (hgd : o.guard = none) (s x : Operand) (ho : o.op = .call { callee := .builtin .append, args := #[s, x], argTypes := #[t, t] }) (hd : a.eval s = dv) (hx : a.eval x = sv)
    (hc : ∀ v' w', All B w0 (l1 ++ ro e size v' (n + m) (xs ++ ys) :: l2) w' → K (a.put o.dst v') w') : if Region.wanted o (yielded ops a.tmps) = true then Oper.wp P o a w K Q else E := by
  have hw : Region.wanted o (yielded ops a.tmps) = true := by simp [Region.wanted, hgd]
  rw [if_pos hw]
  exact wp_append_roA hT l1 h hs hm h1 hlen hby s x ho hd hx hc
theorem All.turn {B : Nat} {w0 w : World} {o o' : Ob} (l1 : List Ob) {l2 : List Ob} (h : All B w0 (l1 ++ o :: l2) w) (hp : o'.P w) (hf : ∀ k, o'.F k → o.F k) : All B w0 (l1 ++ o' :: l2) w :=
  h.step l1 hp (Chg.refl _ _) (fun k hk => .inl (hf k hk))
theorem All.ro0 {B : Nat} {w0 w : World} {o : Ob} (l1 : List Ob) {l2 : List Ob} (e : TypeId) (size : Nat) (h : All B w0 (l1 ++ o :: l2) w) : All B w0 (l1 ++ ro e size (.slice none 0 0) 0 [] :: l2) w :=
  h.turn l1 (Ro.nil w e size) (fun k hk => hk.elim)
theorem All.roDrop {B : Nat} {w0 w : World} (l1 : List Ob) {l2 : List Ob} {e : TypeId} {size n g o cap : Nat} {xs : List Value} (h : All B w0 (l1 ++ ro e size (.slice (some ⟨g, o, none⟩) n cap) n xs :: l2) w) {m : Nat} (hm : m < n) :
    All B w0 (l1 ++ ro e size (.slice (some ⟨g, o + m * size, none⟩) (n - m) (cap - m)) (n - m) (xs.drop (m * size)) :: l2) w :=
  have hR : Ro w e size (.slice (some ⟨g, o, none⟩) n cap) n xs := h.mid
  h.turn l1 (hR.drop hm).1 (hR.drop hm).2
theorem All.roCut {B : Nat} {w0 w : World} (l1 : List Ob) {l2 : List Ob} {e : TypeId} {size n cap : Nat} {a : Option Addr} {xs : List Value} (h : All B w0 (l1 ++ ro e size (.slice a n cap) n xs :: l2) w) {m : Nat} (hm : m ≤ n) :
    All B w0 (l1 ++ ro e size (.slice a m m) m (xs.take (m * size)) :: l2) w :=
  have hR : Ro w e size (.slice a n cap) n xs := h.mid
  h.turn l1 (hR.cut hm).1 (hR.cut hm).2
theorem rows_drop {α : Type} {enc : α → List Value} {m : Nat} (he : ∀ v, (enc v).length = m) (l : List α) (i : Nat) : (rows enc l).drop (i * m) = rows enc (l.drop i) := by
  induction l generalizing i with
  | nil => simp [rows]
  | cons x l ih =>
    cases i with
    | zero => simp
    | succ i =>
      rw [List.drop_succ_cons, ← ih i]
      show (enc x ++ rows enc l).drop ((i + 1) * m) = _
      rw [Nat.add_mul, Nat.one_mul, Nat.add_comm, ← List.drop_drop, List.drop_left' (he x)]
theorem slice_end {l : List UInt8} (h : Vd l) : sliceF l (nL l : Int) ((nL l + 1 : Nat) : Int) = [] := by
  unfold sliceF
  rw [if_neg (by omega), fix_rfix, h, show max (nL l : Int) 0 = ((nL l : Nat) : Int) by omega, slGo_pts ⟨l.toArray⟩ (nL l) (nL l + 1) (by omega) l.length 0 0 l.length (by show l.toArray.size ≤ _; simp) (Nat.zero_le _)]
  have hd : (⟨l.toArray⟩ : ByteArray).data.toList.drop 0 = l := rfl
  have hsz : (⟨l.toArray⟩ : ByteArray).size = l.length := by show l.toArray.size = _; simp
  have hn : (ptsL l).length = nL l := rfl
  rw [hd, hn, if_neg (by omega), if_neg (by omega), hsz]
  unfold exL
  rw [ByteArray.data_extract, Array.toList_extract, List.extract_eq_take_drop]
  simp
section
variable {B : Nat} {w0 w : World} {Q R : Nat} {foc hd : Int} {l : List Ob} {O : Ob} {k : Nat} {v : List UInt8} {F : FT}
theorem ro_of {e : TypeId} {size n : Nat} {v : Value} {xs : List Value} {l1 l2 : List Ob} (h : All B w0 (l1 ++ ro e size v n xs :: l2) w) : ∃ a cap, v = .slice a n cap ∧ n ≤ cap :=
  (show Ro w e size v n xs from h.mid).shape
theorem keep_snoc {α : Type} (l : List α) (x : α) (h : l.length ≤ 100) : keepE (l ++ [x]) = if l.length = 100 then (l ++ [x]).drop 1 else l ++ [x] := by
  unfold keepE
  rw [List.length_append, List.length_singleton]
  split
  · rename_i e; rw [e]
  · rw [show l.length + 1 - 100 = 0 by omega, List.drop_zero]
set_option maxRecDepth 100000 in
set_option maxHeartbeats 16000000 in
theorem replace_one (h : FsAt B w0 Q foc hd v l F w) (hO : O ∈ l) (hF : FdOk B w0 R O hd k v) (hk : k = 1 ∨ k = 2) (hv : v.length ≤ 10000000) (hL : ∀ wx, Below B w0 wx → Laid wx) (hvd : Vd F.val) (hun : F.undo.length ≤ 100)
    (a b : Nat) (x : List UInt8) (s e : Nat) (hab : (a ≤ b ∧ b ≤ nL F.val) ∨ (a = nL F.val ∧ b = nL F.val + 1 ∧ x = [])) (hln : F.val.length + x.length ≤ 1000000) :
    Calls Tryz.prog 62 #[.pointer (some ⟨Q, 0, none⟩), .pointer (some ⟨R, 0, none⟩), .int .i64 hd, .int .i64 (a : Int), .int .i64 (b : Int), .string ⟨x.toArray⟩, .int .i64 (s : Int), .int .i64 (e : Int)] w fun e' w' => e' = .returned (.int .i64 0) ∧ FsAt B w0 Q foc hd v l (F.rep a b x s e) w' := by
  have HV := Lib.hid (value_one h hO hF hk)
  have HB := Lib.hid h
  have HDi := Lib.hid (fun wx (hb : Below w.heap.size w wx) => dirty_one (h.still hb) hO hF hv)
  have HLw : ∀ wx, Below w.heap.size w wx → Laid wx := fun wx hb => hL wx (h.rest.below.trans (hb.mono h.rest.le))
  have HSl := Lib.hid (fun (a b : Int) wx (hb : Below w.heap.size w wx) => slice_any F.val a b wx (by omega) (HLw wx hb))
  have HLe := Lib.hid (fun wx => len_n F.val wx (by omega))
  have HLx := Lib.hid (fun wx => len_n x wx (by omega))
  have hnl := nL_le F.val
  have hnx := nL_le x
  have hpart : sliceF F.val (a : Int) (b : Int) = cutL F.val a b := by
    rcases hab with ⟨h1, h2⟩ | ⟨h1, h2, _⟩
    · exact slice_cut hvd h1 h2
    · rw [h1, h2, slice_end hvd, cut_none (.inr (Nat.le_refl _))]
  have hal : a ≤ nL F.val := by omega
  have hpre : sliceF F.val 0 (a : Int) = cutL F.val 0 a := slice_cut hvd (Nat.zero_le _) hal
  have hpost : b ≤ nL F.val → sliceF F.val (b : Int) (nL F.val : Int) = cutL F.val b (nL F.val) := fun hb => slice_cut hvd hb (Nat.le_refl _)
  have hc1 := cut_len F.val 0 a
  have hc2 := cut_len F.val a b
  have hc3 := cut_len F.val b (nL F.val)
  have h3 : b ≤ nL F.val → a ≤ b → F.val.length = (cutL F.val 0 a).length + ((cutL F.val a b).length + (cutL F.val b (nL F.val)).length) := fun hb hab => by
    have := congrArg List.length (cut_three F.val hab hb)
    simpa using this
  clear h hF hO hL HLw
  by_cases hno : cutL F.val a b = [] ∧ x = []
  · obtain ⟨h1, rfl⟩ := hno
    have HE := Lib.hid (show F.rep a b [] s e = F by unfold FT.rep; rw [if_pos ⟨h1, rfl⟩])
    rw [h1] at hpart
    clear hpre hpost hc1 hc2 hc3 h3 h1 hab
    go_enter Tryz.func62, Tryz.ntmps62
    go_wp2_with fail
    refine HV.out.mono ?_
    rintro e w1 ⟨rfl, hb1⟩
    go_wp2_with fail
    refine (HSl.out _ _ _ hb1).mono ?_
    rintro e w2 ⟨rfl, hb2⟩
    rw [hpart]
    have hb2' := bthen hb1 hb2
    go_wp2_with fail
    go_ret
    rw [HE.out]
    exact ⟨rfl, HB.out.still hb2'⟩
  · obtain ⟨hab1, hb1⟩ : a ≤ b ∧ b ≤ nL F.val := by
      rcases hab with h | ⟨h1, h2, h4⟩
      · exact h
      · exact absurd ⟨cut_none (.inr (by omega)), h4⟩ hno
    have HE := Lib.hid (show F.rep a b x s e = ⟨cutL F.val 0 a ++ (x ++ cutL F.val b (nL F.val)), a + nL x, a + nL x, keepE (F.undo ++ [⟨a, cutL F.val a b, x, s, e⟩]), []⟩ by unfold FT.rep; rw [if_neg hno])
    have hpost := hpost hb1
    have h3 := h3 hb1 hab1
    generalize cutL F.val 0 a = pre at *
    generalize cutL F.val b (nL F.val) = post at *
    generalize cutL F.val a b = part at *
    have hsz : (⟨(pre ++ x ++ post).toArray⟩ : ByteArray).size ≤ 1000000 := by
      show (pre ++ x ++ post).toArray.size ≤ _
      simp; omega
    have hassoc : pre ++ x ++ post = pre ++ (x ++ post) := List.append_assoc _ _ _
    rw [← hassoc] at HE
    generalize hNW : pre ++ x ++ post = nw at *
    have HNW := Lib.hid hNW
    have hcase : ((part == []) = true ∧ (x == []) = false) ∨ (part == []) = false := by
      by_cases h : part = []
      · exact .inl ⟨by simpa using h, by simpa using fun e => hno ⟨h, e⟩⟩
      · exact .inr (by simpa using h)
    clear hno hab hassoc hNW hc1 hc2 hc3
    rcases hcase with ⟨e0, e1⟩ | e1
    all_goals
      go_enter Tryz.func62, Tryz.ntmps62
      go_wp2_with fail
      refine HV.out.mono ?_
      rintro e' w1 ⟨rfl, hb1⟩
      go_wp2_with fail
      refine (HSl.out _ _ _ hb1).mono ?_
      rintro e' w2 ⟨rfl, hb2⟩
      rw [hpart]
      have hb2' := bthen hb1 hb2
      go_wp2_with fail
      refine (HSl.out _ _ _ hb2').mono ?_
      rintro e' w3 ⟨rfl, hb3⟩
      rw [hpre]
      have hb3' := bthen hb2' hb3
      go_wp2_with fail
      refine (HLe.out _).mono ?_
      rintro e' w4 ⟨rfl, hb4⟩
      have hb4' := bthen hb3' hb4
      go_wp2_with fail
      refine (HSl.out _ _ _ hb4').mono ?_
      rintro e' w5 ⟨rfl, hb5⟩
      rw [hpost]
      have hb5' := bthen hb4' hb5
      go_upto_region 6 with fail
      simp only [bytes_app]
      have hnw := HNW.out
      rw [hnw]
      clear hnw hb1 hb2 hb3 hb4 hb2' hb3' hb4' hb5 hpre hpost hpart
      have hds : decide ((1048576 : Int) < (((⟨nw.toArray⟩ : ByteArray).size : Nat) : Int)) = false := by simp; omega
      generalize hNV : (⟨nw.toArray⟩ : ByteArray) = NV at *
      have HNV := Lib.hid hNV
      clear hNV
      go_wp2_with fail
      refine (HDi.out _ hb5').mono ?_
      rintro e' w6 ⟨g, cap, tc, ck, u, r, rfl, hA⟩
      obtain ⟨ua, uc, rfl, huc⟩ := ro_of (l1 := oneL Q g cap foc ⟨hd, true, tc, ck, F, u, r⟩) (l2 := ro 126 5 r F.redo.length (rows encE F.redo) :: l) hA
      obtain ⟨c7, f7⟩ := one_cell hA (j := 7) (by omega)
      rw [show (fxC ⟨hd, true, tc, ck, F, .slice ua F.undo.length uc, r⟩)[7]? = some (.slice ua F.undo.length uc) from rfl] at c7
      have hA0 : All B w0 (oneL Q g cap foc ⟨hd, true, tc, ck, F, .slice ua F.undo.length uc, r⟩ ++ ro 126 5 (.slice ua F.undo.length uc) F.undo.length (rows encE F.undo) :: (ro 126 5 r F.redo.length (rows encE F.redo) :: l)) _ := hA.alloc (.cells (encE ⟨a, part, x, s, e⟩).toArray 126)
      clear hA hb5'
      generalize hnn : F.undo.length = n at *
      have HNN := Lib.hid hnn
      have HA := Lib.hid hA0
      clear hA0 hnn
      by_cases h100 : n = 100
      · subst h100
        go_wp2_with (at_builtin; refine wpList_append_roA etE (oneL Q g cap foc ⟨hd, true, tc, ck, F, .slice ua 100 uc, r⟩) (l2 := ro 126 5 r F.redo.length (rows encE F.redo) :: l) HA.out (own_at (n := 1) (size := 5) (Blk.new w6 (encE ⟨a, part, x, s, e⟩) 126) rfl (by omega)) (by omega) (encE_one _) (by omega) (by omega) rfl _ _ rfl rfl rfl ?_; intro u2 w7 hA7; obtain ⟨g2, o2, c2, rfl, hc2, _⟩ := Ro.at_ (show Ro w7 126 5 u2 (101) _ from hA7.mid) (by omega); rw [← rows_snoc (enc := encE)] at hA7; have f7' := (one_cell hA7 (j := 7) (by omega)).2; have k7 := (one_cell hA7 (j := 7) (by omega)).1; have f8' := (one_cell hA7 (j := 8) (by omega)).2; have k8 := (one_cell hA7 (j := 8) (by omega)).1; have f2' := (one_cell hA7 (j := 2) (by omega)).2; have k2 := (one_cell hA7 (j := 2) (by omega)).1; simp only [fxC, List.getElem?_cons_succ, List.getElem?_cons_zero] at k7 k8 k2; have HA8 := Lib.hid (one_set hA7 ⟨hd, true, tc, ck, { F with undo := F.undo ++ [⟨a, part, x, s, e⟩] }, .slice (some ⟨g2, o2, none⟩) (101) c2, r⟩ 7 (.slice (some ⟨g2, o2, none⟩) (101) c2) rfl); clear hA7 c7 f7)
        have hA8 := HA8.out
        have hD := All.roDrop (oneL Q g cap foc ⟨hd, true, tc, ck, { F with undo := F.undo ++ [⟨a, part, x, s, e⟩] }, .slice (some ⟨g2, o2, none⟩) 101 c2, r⟩) (m := 1) hA8 (by omega)
        rw [rows_drop encE_len] at hD
        have hA9 := one_set hD ⟨hd, true, tc, ck, { F with undo := (F.undo ++ [(⟨a, part, x, s, e⟩ : FE)]).drop 1 }, (.slice (some ⟨g2, o2 + 1 * 5, none⟩) (101 - 1) (c2 - 1)), r⟩ 7 (.slice (some ⟨g2, o2 + 1 * 5, none⟩) (101 - 1) (c2 - 1)) rfl
        have hA10 := one_set hA9 ⟨hd, true, tc, ck, { F with undo := (F.undo ++ [(⟨a, part, x, s, e⟩ : FE)]).drop 1 }, (.slice (some ⟨g2, o2 + 1 * 5, none⟩) (101 - 1) (c2 - 1)), .slice none 0 0⟩ 8 (.slice none 0 0) rfl
        have hA11 := one_set hA10 ⟨hd, true, tc, ck, { F with val := nw, undo := (F.undo ++ [(⟨a, part, x, s, e⟩ : FE)]).drop 1 }, (.slice (some ⟨g2, o2 + 1 * 5, none⟩) (101 - 1) (c2 - 1)), .slice none 0 0⟩ 2 (.string NV) (by rw [← HNV.out]; rfl)
        have HA11 := Lib.hid (All.ro0 (oneL Q g cap foc ⟨hd, true, tc, ck, { F with val := nw, undo := (F.undo ++ [(⟨a, part, x, s, e⟩ : FE)]).drop 1 }, (.slice (some ⟨g2, o2 + 1 * 5, none⟩) (101 - 1) (c2 - 1)), .slice none 0 0⟩ ++ [ro 126 5 (.slice (some ⟨g2, o2 + 1 * 5, none⟩) (101 - 1) (c2 - 1)) (101 - 1) (rows encE ((F.undo ++ [(⟨a, part, x, s, e⟩ : FE)]).drop 1))]) 126 5 hA11)
        clear hA8 hD hA9 hA10 hA11
        go_wp2_with fail
        refine (HLx.out _).mono ?_
        rintro e' w8 ⟨rfl, hb8⟩
        have hA12 := HA11.out.still hb8
        obtain ⟨d5, f5⟩ := one_cell hA12 (j := 5) (by omega)
        obtain ⟨d6, f6⟩ := one_cell hA12 (j := 6) (by omega)
        have hA13 := one_set hA12 ⟨hd, true, tc, ck, ⟨nw, a + nL x, F.en, ((F.undo ++ [(⟨a, part, x, s, e⟩ : FE)]).drop 1), []⟩, (.slice (some ⟨g2, o2 + 1 * 5, none⟩) (101 - 1) (c2 - 1)), .slice none 0 0⟩ 5 (.int .i64 ((a : Int) + (nL x : Int))) (by simp only [fxC, List.set_cons_succ, List.set_cons_zero, Int.natCast_add])
        have hA14 := one_set hA13 ⟨hd, true, tc, ck, ⟨nw, a + nL x, a + nL x, ((F.undo ++ [(⟨a, part, x, s, e⟩ : FE)]).drop 1), []⟩, (.slice (some ⟨g2, o2 + 1 * 5, none⟩) (101 - 1) (c2 - 1)), .slice none 0 0⟩ 6 (.int .i64 ((a : Int) + (nL x : Int))) (by simp only [fxC, List.set_cons_succ, List.set_cons_zero, Int.natCast_add])
        have HA14 := Lib.hid hA14
        clear hA12 hA13 hA14 hb8
        go_wp2_with fail
        go_ret
        refine ⟨rfl, ?_⟩
        rw [HE.out, keep_snoc _ _ (by rw [HNN.out]; omega), if_pos HNN.out]
        refine FsAt.of (u := (.slice (some ⟨g2, o2 + 1 * 5, none⟩) (101 - 1) (c2 - 1))) (r := .slice none 0 0) (tc := tc) (ck := ck) (g := g) (cap := cap) ?_
        have hLn : ((F.undo ++ [(⟨a, part, x, s, e⟩ : FE)]).drop 1).length = 101 - 1 := by rw [List.length_drop, List.length_append, List.length_singleton, HNN.out]
        show All B w0 (oneL Q g cap foc _ ++ ro 126 5 (.slice (some ⟨g2, o2 + 1 * 5, none⟩) (101 - 1) (c2 - 1)) ((F.undo ++ [(⟨a, part, x, s, e⟩ : FE)]).drop 1).length (rows encE ((F.undo ++ [(⟨a, part, x, s, e⟩ : FE)]).drop 1)) :: (ro 126 5 (.slice none 0 0) 0 [] :: l)) _
        rw [hLn]
        exact HA14.out
      · have hd100 : decide ((100 : Int) < (n : Int) + 1) = false := by simp; omega
        go_wp2_with (at_builtin; refine wpList_append_roA etE (oneL Q g cap foc ⟨hd, true, tc, ck, F, .slice ua n uc, r⟩) (l2 := ro 126 5 r F.redo.length (rows encE F.redo) :: l) HA.out (own_at (n := 1) (size := 5) (Blk.new w6 (encE ⟨a, part, x, s, e⟩) 126) rfl (by omega)) (by omega) (encE_one _) (by omega) (by omega) rfl _ _ rfl rfl rfl ?_; intro u2 w7 hA7; obtain ⟨g2, o2, c2, rfl, hc2, _⟩ := Ro.at_ (show Ro w7 126 5 u2 (n + 1) _ from hA7.mid) (by omega); rw [← rows_snoc (enc := encE)] at hA7; have f7' := (one_cell hA7 (j := 7) (by omega)).2; have k7 := (one_cell hA7 (j := 7) (by omega)).1; have f8' := (one_cell hA7 (j := 8) (by omega)).2; have k8 := (one_cell hA7 (j := 8) (by omega)).1; have f2' := (one_cell hA7 (j := 2) (by omega)).2; have k2 := (one_cell hA7 (j := 2) (by omega)).1; simp only [fxC, List.getElem?_cons_succ, List.getElem?_cons_zero] at k7 k8 k2; have HA8 := Lib.hid (one_set hA7 ⟨hd, true, tc, ck, { F with undo := F.undo ++ [⟨a, part, x, s, e⟩] }, .slice (some ⟨g2, o2, none⟩) (n + 1) c2, r⟩ 7 (.slice (some ⟨g2, o2, none⟩) (n + 1) c2) rfl); clear hA7 c7 f7)
        have hA8 := HA8.out
        have hA10 := one_set hA8 ⟨hd, true, tc, ck, { F with undo := F.undo ++ [⟨a, part, x, s, e⟩] }, (.slice (some ⟨g2, o2, none⟩) (n + 1) c2), .slice none 0 0⟩ 8 (.slice none 0 0) rfl
        have hA11 := one_set hA10 ⟨hd, true, tc, ck, { F with val := nw, undo := F.undo ++ [⟨a, part, x, s, e⟩] }, (.slice (some ⟨g2, o2, none⟩) (n + 1) c2), .slice none 0 0⟩ 2 (.string NV) (by rw [← HNV.out]; rfl)
        have HA11 := Lib.hid (All.ro0 (oneL Q g cap foc ⟨hd, true, tc, ck, { F with val := nw, undo := F.undo ++ [⟨a, part, x, s, e⟩] }, (.slice (some ⟨g2, o2, none⟩) (n + 1) c2), .slice none 0 0⟩ ++ [ro 126 5 (.slice (some ⟨g2, o2, none⟩) (n + 1) c2) (n + 1) (rows encE (F.undo ++ [⟨a, part, x, s, e⟩]))]) 126 5 hA11)
        clear hA8 hA10 hA11
        go_wp2_with fail
        refine (HLx.out _).mono ?_
        rintro e' w8 ⟨rfl, hb8⟩
        have hA12 := HA11.out.still hb8
        obtain ⟨d5, f5⟩ := one_cell hA12 (j := 5) (by omega)
        obtain ⟨d6, f6⟩ := one_cell hA12 (j := 6) (by omega)
        have hA13 := one_set hA12 ⟨hd, true, tc, ck, ⟨nw, a + nL x, F.en, (F.undo ++ [⟨a, part, x, s, e⟩]), []⟩, (.slice (some ⟨g2, o2, none⟩) (n + 1) c2), .slice none 0 0⟩ 5 (.int .i64 ((a : Int) + (nL x : Int))) (by simp only [fxC, List.set_cons_succ, List.set_cons_zero, Int.natCast_add])
        have hA14 := one_set hA13 ⟨hd, true, tc, ck, ⟨nw, a + nL x, a + nL x, (F.undo ++ [⟨a, part, x, s, e⟩]), []⟩, (.slice (some ⟨g2, o2, none⟩) (n + 1) c2), .slice none 0 0⟩ 6 (.int .i64 ((a : Int) + (nL x : Int))) (by simp only [fxC, List.set_cons_succ, List.set_cons_zero, Int.natCast_add])
        have HA14 := Lib.hid hA14
        clear hA12 hA13 hA14 hb8
        go_wp2_with fail
        go_ret
        refine ⟨rfl, ?_⟩
        rw [HE.out, keep_snoc _ _ (by rw [HNN.out]; omega), if_neg (by rw [HNN.out]; exact h100)]
        refine FsAt.of (u := (.slice (some ⟨g2, o2, none⟩) (n + 1) c2)) (r := .slice none 0 0) (tc := tc) (ck := ck) (g := g) (cap := cap) ?_
        have hLn : (F.undo ++ [(⟨a, part, x, s, e⟩ : FE)]).length = n + 1 := by rw [List.length_append, List.length_singleton, HNN.out]
        show All B w0 (oneL Q g cap foc _ ++ ro 126 5 (.slice (some ⟨g2, o2, none⟩) (n + 1) c2) (F.undo ++ [(⟨a, part, x, s, e⟩ : FE)]).length (rows encE (F.undo ++ [(⟨a, part, x, s, e⟩ : FE)])) :: (ro 126 5 (.slice none 0 0) 0 [] :: l)) _
        rw [hLn]
        exact HA14.out
end
end Go.Proofs.YtacdbnhnhdlmpaaGreatDoor.W
end
