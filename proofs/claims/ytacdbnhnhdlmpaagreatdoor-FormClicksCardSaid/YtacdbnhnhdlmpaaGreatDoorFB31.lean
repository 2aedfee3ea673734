/- Texts joined: Mkt RdP RoA Frp Rpn. -/
import Derived.Test.YtacdbnhnhdlmpaaGreatDoorFB27
import Derived.Deep.CutBlock
import Derived.Test.YtacdbnhnhdlmpaaGreatDoorFB29
import Derived.Test.YtacdbnhnhdlmpaaGreatDoorFB30
import Derived.Test.YtacdbnhnhdlmpaaGreatDoorFB24
import Derived.Test.YtacdbnhnhdlmpaaGreatDoorFB21
import Derived.Test.YtacdbnhnhdlmpaaGreatDoorFB11
import Derived.Test.YtacdbnhnhdlmpaaGreatDoorFB1
import Derived.Defers
import Derived.Laws.Pointers
import Derived.Laws.LoneSync
import Derived.RegionTactic
import Derived.RegionCalls
import Derived.ChangeAlike
import Derived.Deep.MidRow
set_option maxRecDepth 100000
set_option maxHeartbeats 40000000
set_option linter.unusedVariables false
set_option linter.unusedSimpArgs false
section
namespace Go.Proofs.YtacdbnhnhdlmpaaGreatDoor.W
open Go.RowKit
theorem fewp_any (A : Option Addr) (n c : Nat) (w : World) : Calls Tryz.prog 26 #[.slice A n c] w fun e w' => e = .returned (.bool (decide (n ≤ 25))) ∧ w' = w := by
  go_enter Tryz.func26, Tryz.ntmps26
  go_wp2_with fail
  go_ret
  refine ⟨?_, rfl⟩
  simp
  omega
theorem run_append_roA {P : Program} {t ty e : TypeId} {size bytes : Nat} (hT : ET P t e size bytes) {B : Nat} {w0 w : World} (l1 : List Ob) {l2 : List Ob} {dv : Value} {n : Nat} {xs : List Value}
    (h : All B w0 (l1 ++ ro e size dv n xs :: l2) w) {sv : Value} {m : Nat} {ys : List Value} (hs : Own w e size sv m ys) (hm : 0 < m) (h1 : ∀ u ∈ ys, u.oneCell' = true) (hlen : n + m ≤ 1000000000) (hby : bytes ≤ 1000) :
    ∃ v' w', (Builtin.append_ #[t, t] ty #[dv, sv]).run P w = .ok v' w' ∧ All B w0 (l1 ++ ro e size v' (n + m) (xs ++ ys) :: l2) w' := by
  have hR : Ro w e size dv n xs := h.mid
  obtain ⟨g, cap, rfl, _⟩ := own_some hs hm
  obtain ⟨v', w', hr, h2, h3, h4⟩ := run_append_ro (P := P) (ty := ty) hT hR (ad := ⟨g, 0, none⟩) (m := m) (c := cap) hs.1 (own_news hs) h1 hm hlen hby
  exact ⟨v', w', hr, h.step l1 (o' := ro e size v' (n + m) (xs ++ ys)) h2 h3 h4⟩
theorem wp_append_roA {P : Program} {t e : TypeId} {size bytes : Nat} (hT : ET P t e size bytes) {B : Nat} {w0 w : World} (l1 : List Ob) {l2 : List Ob} {dv : Value} {n : Nat} {xs : List Value}
    (h : All B w0 (l1 ++ ro e size dv n xs :: l2) w) {sv : Value} {m : Nat} {ys : List Value} (hs : Own w e size sv m ys) (hm : 0 < m) (h1 : ∀ u ∈ ys, u.oneCell' = true) (hlen : n + m ≤ 1000000000) (hby : bytes ≤ 1000)
    {o : Oper} {a : Act} {K : Act → World → Prop} {Q : Exit → Act → World → Prop} (s x : Operand) (ho : o.op = .call { callee := .builtin .append, args := #[s, x], argTypes := #[t, t] }) (hd : a.eval s = dv) (hx : a.eval x = sv)
    (hc : ∀ v' w', All B w0 (l1 ++ ro e size v' (n + m) (xs ++ ys) :: l2) w' → K (a.put o.dst v') w') : o.wp P a w K Q := by
  obtain ⟨v', w', hr, h2⟩ := run_append_roA (ty := o.type) hT l1 h hs hm h1 hlen hby
  unfold Oper.wp execOp
  simp only [ho, resolve, invoke, builtin, Sem.run_bind, Sem.run_pure, Result.andThen_ok, List.map_toArray, List.map_cons, List.map_nil, hd, hx, hr]
  exact hc v' w' h2
theorem wpList_append_roA {P : Program} {t e : TypeId} {size bytes : Nat} (hT : ET P t e size bytes) {B : Nat} {w0 w : World} (l1 : List Ob) {l2 : List Ob} {dv : Value} {n : Nat} {xs : List Value}
    (h : All B w0 (l1 ++ ro e size dv n xs :: l2) w) {sv : Value} {m : Nat} {ys : List Value} (hs : Own w e size sv m ys) (hm : 0 < m) (h1 : ∀ u ∈ ys, u.oneCell' = true) (hlen : n + m ≤ 1000000000) (hby : bytes ≤ 1000)
    {ops : Array Oper} {rest : List Oper} {o : Oper} {a : Act} {Q : Exit → Act → World → Prop} (hgd : o.guard = none) (s x : Operand) (ho : o.op = .call { callee := .builtin .append, args := #[s, x], argTypes := #[t, t] }) (hd : a.eval s = dv) (hx : a.eval x = sv)
    (hc : ∀ v' w', All B w0 (l1 ++ ro e size v' (n + m) (xs ++ ys) :: l2) w' → wpList P ops Q rest (a.put o.dst v') w') : wpList P ops Q (o :: rest) a w :=
  wpList_plain hgd fun K hK => wp_append_roA hT l1 h hs hm h1 hlen hby s x ho hd hx fun v' w' h' => hK _ _ (hc v' w' h')
theorem All.turn {B : Nat} {w0 w : World} {o o' : Ob} (l1 : List Ob) {l2 : List Ob} (h : All B w0 (l1 ++ o :: l2) w) (hp : o'.P w) (hf : ∀ k, o'.F k → o.F k) : All B w0 (l1 ++ o' :: l2) w :=
  h.step l1 hp (Chg.refl _ _) (fun k hk => .inl (hf k hk))
theorem All.ro0 {B : Nat} {w0 w : World} {o : Ob} (l1 : List Ob) {l2 : List Ob} (e : TypeId) (size : Nat) (h : All B w0 (l1 ++ o :: l2) w) : All B w0 (l1 ++ ro e size (.slice none 0 0) 0 [] :: l2) w :=
  h.turn l1 (Ro.nil w e size) (fun k hk => hk.elim)
theorem All.roDrop {B : Nat} {w0 w : World} (l1 : List Ob) {l2 : List Ob} {e : TypeId} {size n g o cap : Nat} {xs : List Value} (h : All B w0 (l1 ++ ro e size (.slice (some ⟨g, o, none⟩) n cap) n xs :: l2) w) {m : Nat} (hm : m < n) :
    All B w0 (l1 ++ ro e size (.slice (some ⟨g, o + m * size, none⟩) (n - m) (cap - m)) (n - m) (xs.drop (m * size)) :: l2) w :=
  have hR : Ro w e size (.slice (some ⟨g, o, none⟩) n cap) n xs := h.mid
  h.turn l1 (hR.drop hm).1 (hR.drop hm).2
theorem rows_drop {α : Type} {enc : α → List Value} {m : Nat} (he : ∀ v, (enc v).length = m) (l : List α) (i : Nat) : (rows enc l).drop (i * m) = rows enc (l.drop i) := by
  induction l generalizing i with
  | nil => simp [rows]
  | cons x l ih =>
    cases i with
    | zero => simp
    | succ i =>
      rw [List.drop_succ_cons, ← ih i]
      show (enc x ++ rows enc l).drop ((i + 1) * m) = _
      rw [Nat.add_mul, Nat.one_mul, Nat.add_comm, ← List.drop_drop, List.drop_left' (he x)]
theorem slice_end {l : List UInt8} (h : Vd l) : sliceF l (nL l : Int) ((nL l + 1 : Nat) : Int) = [] := by
  unfold sliceF
  rw [if_neg (by omega), fix_rfix, h, show max (nL l : Int) 0 = ((nL l : Nat) : Int) by omega, slGo_pts ⟨l.toArray⟩ (nL l) (nL l + 1) (by omega) l.length 0 0 l.length (by show l.toArray.size ≤ _; simp) (Nat.zero_le _)]
  have hd : (⟨l.toArray⟩ : ByteArray).data.toList.drop 0 = l := rfl
  have hsz : (⟨l.toArray⟩ : ByteArray).size = l.length := by show l.toArray.size = _; simp
  have hn : (ptsL l).length = nL l := rfl
  rw [hd, hn, if_neg (by omega), if_neg (by omega), hsz]
  unfold exL
  rw [ByteArray.data_extract, Array.toList_extract, List.extract_eq_take_drop]
  simp
section
variable {B : Nat} {w0 w : World} {Q R : Nat} {foc hd : Int} {l : List Ob} {O : Ob} {k : Nat} {v : List UInt8} {F : FT}
theorem ro_of {e : TypeId} {size n : Nat} {v : Value} {xs : List Value} {l1 l2 : List Ob} (h : All B w0 (l1 ++ ro e size v n xs :: l2) w) : ∃ a cap, v = .slice a n cap ∧ n ≤ cap :=
  (show Ro w e size v n xs from h.mid).shape
theorem keep_snoc {α : Type} (l : List α) (x : α) (h : l.length ≤ 100) : keepE (l ++ [x]) = if l.length = 100 then (l ++ [x]).drop 1 else l ++ [x] := by
  unfold keepE
  rw [List.length_append, List.length_singleton]
  split
  · rename_i e; rw [e]
  · rw [show l.length + 1 - 100 = 0 by omega, List.drop_zero]
set_option maxRecDepth 100000 in
set_option maxHeartbeats 16000000 in
theorem replace_one (h : FsAt B w0 Q foc hd v l F w) (hO : O ∈ l) (hF : FdOk B w0 R O hd k v) (hk : k = 1 ∨ k = 2) (hv : v.length ≤ 10000000) (hL : ∀ wx, Below B w0 wx → Laid wx) (hvd : Vd F.val) (hun : F.undo.length ≤ 100)
    (a b : Nat) (x : List UInt8) (s e : Nat) (hab : (a ≤ b ∧ b ≤ nL F.val) ∨ (a = nL F.val ∧ b = nL F.val + 1 ∧ x = [])) (hln : F.val.length + x.length ≤ 1000000) :
    Calls Tryz.prog 62 #[.pointer (some ⟨Q, 0, none⟩), .pointer (some ⟨R, 0, none⟩), .int .i64 hd, .int .i64 (a : Int), .int .i64 (b : Int), .string ⟨x.toArray⟩, .int .i64 (s : Int), .int .i64 (e : Int)] w fun e' w' => e' = .returned (.int .i64 0) ∧ FsAt B w0 Q foc hd v l (F.rep a b x s e) w' := by
  have HV := Lib.hid (value_one h hO hF hk)
  have HB := Lib.hid h
  have HDi := Lib.hid (fun wx (hb : Below w.heap.size w wx) => dirty_one (h.still hb) hO hF hv)
  have HLw : ∀ wx, Below w.heap.size w wx → Laid wx := fun wx hb => hL wx (h.rest.below.trans (hb.mono h.rest.le))
  have HSl := Lib.hid (fun (a b : Int) wx (hb : Below w.heap.size w wx) => slice_any F.val a b wx (by omega) (HLw wx hb))
  have HLe := Lib.hid (fun wx => len_n F.val wx (by omega))
  have HLx := Lib.hid (fun wx => len_n x wx (by omega))
  have hnl := nL_le F.val
  have hnx := nL_le x
  have hpart : sliceF F.val (a : Int) (b : Int) = cutL F.val a b := by
    rcases hab with ⟨h1, h2⟩ | ⟨h1, h2, _⟩
    · exact slice_cut hvd h1 h2
    · rw [h1, h2, slice_end hvd, cut_none (.inr (Nat.le_refl _))]
  have hal : a ≤ nL F.val := by omega
  have hpre : sliceF F.val 0 (a : Int) = cutL F.val 0 a := slice_cut hvd (Nat.zero_le _) hal
  have hpost : b ≤ nL F.val → sliceF F.val (b : Int) (nL F.val : Int) = cutL F.val b (nL F.val) := fun hb => slice_cut hvd hb (Nat.le_refl _)
  have hc1 := cut_len F.val 0 a
  have hc2 := cut_len F.val a b
  have hc3 := cut_len F.val b (nL F.val)
  have h3 : b ≤ nL F.val → a ≤ b → F.val.length = (cutL F.val 0 a).length + ((cutL F.val a b).length + (cutL F.val b (nL F.val)).length) := fun hb hab => by
    have := congrArg List.length (cut_three F.val hab hb)
    simpa using this
  clear h hF hO hL HLw
  by_cases hno : cutL F.val a b = [] ∧ x = []
  · obtain ⟨h1, rfl⟩ := hno
    have HE := Lib.hid (show F.rep a b [] s e = F by unfold FT.rep; rw [if_pos ⟨h1, rfl⟩])
    rw [h1] at hpart
    clear hpre hpost hc1 hc2 hc3 h3 h1 hab
    go_enter Tryz.func62, Tryz.ntmps62
    go_wp2_with fail
    refine HV.out.mono ?_
    rintro e w1 ⟨rfl, hb1⟩
    go_wp2_with fail
    refine (HSl.out _ _ _ hb1).mono ?_
    rintro e w2 ⟨rfl, hb2⟩
    rw [hpart]
    have hb2' := bthen hb1 hb2
    go_wp2_with fail
    go_ret
    rw [HE.out]
    exact ⟨rfl, HB.out.still hb2'⟩
  · obtain ⟨hab1, hb1⟩ : a ≤ b ∧ b ≤ nL F.val := by
      rcases hab with h | ⟨h1, h2, h4⟩
      · exact h
      · exact absurd ⟨cut_none (.inr (by omega)), h4⟩ hno
    have HE := Lib.hid (show F.rep a b x s e = ⟨cutL F.val 0 a ++ (x ++ cutL F.val b (nL F.val)), a + nL x, a + nL x, keepE (F.undo ++ [⟨a, cutL F.val a b, x, s, e⟩]), []⟩ by unfold FT.rep; rw [if_neg hno])
    have hpost := hpost hb1
    have h3 := h3 hb1 hab1
    generalize cutL F.val 0 a = pre at *
    generalize cutL F.val b (nL F.val) = post at *
    generalize cutL F.val a b = part at *
    have hsz : (⟨(pre ++ x ++ post).toArray⟩ : ByteArray).size ≤ 1000000 := by
      show (pre ++ x ++ post).toArray.size ≤ _
      simp; omega
    have hassoc : pre ++ x ++ post = pre ++ (x ++ post) := List.append_assoc _ _ _
    rw [← hassoc] at HE
    generalize hNW : pre ++ x ++ post = nw at *
    have HNW := Lib.hid hNW
    have hcase : ((part == []) = true ∧ (x == []) = false) ∨ (part == []) = false := by
      by_cases h : part = []
      · exact .inl ⟨by simpa using h, by simpa using fun e => hno ⟨h, e⟩⟩
      · exact .inr (by simpa using h)
    clear hno hab hassoc hNW hc1 hc2 hc3
    rcases hcase with ⟨e0, e1⟩ | e1
    all_goals
      go_enter Tryz.func62, Tryz.ntmps62
      go_wp2_with fail
      refine HV.out.mono ?_
      rintro e' w1 ⟨rfl, hb1⟩
      go_wp2_with fail
      refine (HSl.out _ _ _ hb1).mono ?_
      rintro e' w2 ⟨rfl, hb2⟩
      rw [hpart]
      have hb2' := bthen hb1 hb2
      go_wp2_with fail
      refine (HSl.out _ _ _ hb2').mono ?_
      rintro e' w3 ⟨rfl, hb3⟩
      rw [hpre]
      have hb3' := bthen hb2' hb3
      go_wp2_with fail
      refine (HLe.out _).mono ?_
      rintro e' w4 ⟨rfl, hb4⟩
      have hb4' := bthen hb3' hb4
      go_wp2_with fail
      refine (HSl.out _ _ _ hb4').mono ?_
      rintro e' w5 ⟨rfl, hb5⟩
      rw [hpost]
      have hb5' := bthen hb4' hb5
      go_upto_region 6 with fail
      simp only [bytes_app]
      have hnw := HNW.out
      rw [hnw]
      clear hnw hb1 hb2 hb3 hb4 hb2' hb3' hb4' hb5 hpre hpost hpart
      have hds : decide ((1048576 : Int) < (((⟨nw.toArray⟩ : ByteArray).size : Nat) : Int)) = false := by simp; omega
      generalize hNV : (⟨nw.toArray⟩ : ByteArray) = NV at *
      have HNV := Lib.hid hNV
      clear hNV
      go_wp2_with fail
      refine (HDi.out _ hb5').mono ?_
      rintro e' w6 ⟨g, cap, tc, ck, u, r, rfl, hA⟩
      obtain ⟨ua, uc, rfl, huc⟩ := ro_of (l1 := oneL Q g cap foc ⟨hd, true, tc, ck, F, u, r⟩) (l2 := ro 126 5 r F.redo.length (rows encE F.redo) :: l) hA
      obtain ⟨c7, f7⟩ := one_cell hA (j := 7) (by omega)
      rw [show (fxC ⟨hd, true, tc, ck, F, .slice ua F.undo.length uc, r⟩)[7]? = some (.slice ua F.undo.length uc) from rfl] at c7
      have hA0 : All B w0 (oneL Q g cap foc ⟨hd, true, tc, ck, F, .slice ua F.undo.length uc, r⟩ ++ ro 126 5 (.slice ua F.undo.length uc) F.undo.length (rows encE F.undo) :: (ro 126 5 r F.redo.length (rows encE F.redo) :: l)) _ := hA.alloc (.cells (encE ⟨a, part, x, s, e⟩).toArray 126)
      clear hA hb5'
      generalize hnn : F.undo.length = n at *
      have HNN := Lib.hid hnn
      have HA := Lib.hid hA0
      clear hA0 hnn
      by_cases h100 : n = 100
      · subst h100
        go_wp2_with (at_builtin; refine wpList_append_roA etE (oneL Q g cap foc ⟨hd, true, tc, ck, F, .slice ua 100 uc, r⟩) (l2 := ro 126 5 r F.redo.length (rows encE F.redo) :: l) HA.out (own_at (n := 1) (size := 5) (Blk.new w6 (encE ⟨a, part, x, s, e⟩) 126) rfl (by omega)) (by omega) (encE_one _) (by omega) (by omega) rfl _ _ rfl rfl rfl ?_; intro u2 w7 hA7; obtain ⟨g2, o2, c2, rfl, hc2, _⟩ := Ro.at_ (show Ro w7 126 5 u2 (101) _ from hA7.mid) (by omega); rw [← rows_snoc (enc := encE)] at hA7; have f7' := (one_cell hA7 (j := 7) (by omega)).2; have k7 := (one_cell hA7 (j := 7) (by omega)).1; have f8' := (one_cell hA7 (j := 8) (by omega)).2; have k8 := (one_cell hA7 (j := 8) (by omega)).1; have f2' := (one_cell hA7 (j := 2) (by omega)).2; have k2 := (one_cell hA7 (j := 2) (by omega)).1; simp only [fxC, List.getElem?_cons_succ, List.getElem?_cons_zero] at k7 k8 k2; have HA8 := Lib.hid (one_set hA7 ⟨hd, true, tc, ck, { F with undo := F.undo ++ [⟨a, part, x, s, e⟩] }, .slice (some ⟨g2, o2, none⟩) (101) c2, r⟩ 7 (.slice (some ⟨g2, o2, none⟩) (101) c2) rfl); clear hA7 c7 f7)
        have hA8 := HA8.out
        have hD := All.roDrop (oneL Q g cap foc ⟨hd, true, tc, ck, { F with undo := F.undo ++ [⟨a, part, x, s, e⟩] }, .slice (some ⟨g2, o2, none⟩) 101 c2, r⟩) (m := 1) hA8 (by omega)
        rw [rows_drop encE_len] at hD
        have hA9 := one_set hD ⟨hd, true, tc, ck, { F with undo := (F.undo ++ [(⟨a, part, x, s, e⟩ : FE)]).drop 1 }, (.slice (some ⟨g2, o2 + 1 * 5, none⟩) (101 - 1) (c2 - 1)), r⟩ 7 (.slice (some ⟨g2, o2 + 1 * 5, none⟩) (101 - 1) (c2 - 1)) rfl
        have hA10 := one_set hA9 ⟨hd, true, tc, ck, { F with undo := (F.undo ++ [(⟨a, part, x, s, e⟩ : FE)]).drop 1 }, (.slice (some ⟨g2, o2 + 1 * 5, none⟩) (101 - 1) (c2 - 1)), .slice none 0 0⟩ 8 (.slice none 0 0) rfl
        have hA11 := one_set hA10 ⟨hd, true, tc, ck, { F with val := nw, undo := (F.undo ++ [(⟨a, part, x, s, e⟩ : FE)]).drop 1 }, (.slice (some ⟨g2, o2 + 1 * 5, none⟩) (101 - 1) (c2 - 1)), .slice none 0 0⟩ 2 (.string NV) (by rw [← HNV.out]; rfl)
        have HA11 := Lib.hid (All.ro0 (oneL Q g cap foc ⟨hd, true, tc, ck, { F with val := nw, undo := (F.undo ++ [(⟨a, part, x, s, e⟩ : FE)]).drop 1 }, (.slice (some ⟨g2, o2 + 1 * 5, none⟩) (101 - 1) (c2 - 1)), .slice none 0 0⟩ ++ [ro 126 5 (.slice (some ⟨g2, o2 + 1 * 5, none⟩) (101 - 1) (c2 - 1)) (101 - 1) (rows encE ((F.undo ++ [(⟨a, part, x, s, e⟩ : FE)]).drop 1))]) 126 5 hA11)
        clear hA8 hD hA9 hA10 hA11
        go_wp2_with fail
        refine (HLx.out _).mono ?_
        rintro e' w8 ⟨rfl, hb8⟩
        have hA12 := HA11.out.still hb8
        obtain ⟨d5, f5⟩ := one_cell hA12 (j := 5) (by omega)
        obtain ⟨d6, f6⟩ := one_cell hA12 (j := 6) (by omega)
        have hA13 := one_set hA12 ⟨hd, true, tc, ck, ⟨nw, a + nL x, F.en, ((F.undo ++ [(⟨a, part, x, s, e⟩ : FE)]).drop 1), []⟩, (.slice (some ⟨g2, o2 + 1 * 5, none⟩) (101 - 1) (c2 - 1)), .slice none 0 0⟩ 5 (.int .i64 ((a : Int) + (nL x : Int))) (by simp only [fxC, List.set_cons_succ, List.set_cons_zero, Int.natCast_add])
        have hA14 := one_set hA13 ⟨hd, true, tc, ck, ⟨nw, a + nL x, a + nL x, ((F.undo ++ [(⟨a, part, x, s, e⟩ : FE)]).drop 1), []⟩, (.slice (some ⟨g2, o2 + 1 * 5, none⟩) (101 - 1) (c2 - 1)), .slice none 0 0⟩ 6 (.int .i64 ((a : Int) + (nL x : Int))) (by simp only [fxC, List.set_cons_succ, List.set_cons_zero, Int.natCast_add])
        have HA14 := Lib.hid hA14
        clear hA12 hA13 hA14 hb8
        go_wp2_with fail
        go_ret
        refine ⟨rfl, ?_⟩
        rw [HE.out, keep_snoc _ _ (by rw [HNN.out]; omega), if_pos HNN.out]
        refine FsAt.of (u := (.slice (some ⟨g2, o2 + 1 * 5, none⟩) (101 - 1) (c2 - 1))) (r := .slice none 0 0) (tc := tc) (ck := ck) (g := g) (cap := cap) ?_
        have hLn : ((F.undo ++ [(⟨a, part, x, s, e⟩ : FE)]).drop 1).length = 101 - 1 := by rw [List.length_drop, List.length_append, List.length_singleton, HNN.out]
        show All B w0 (oneL Q g cap foc _ ++ ro 126 5 (.slice (some ⟨g2, o2 + 1 * 5, none⟩) (101 - 1) (c2 - 1)) ((F.undo ++ [(⟨a, part, x, s, e⟩ : FE)]).drop 1).length (rows encE ((F.undo ++ [(⟨a, part, x, s, e⟩ : FE)]).drop 1)) :: (ro 126 5 (.slice none 0 0) 0 [] :: l)) _
        rw [hLn]
        exact HA14.out
      · have hd100 : decide ((100 : Int) < (n : Int) + 1) = false := by simp; omega
        go_wp2_with (at_builtin; refine wpList_append_roA etE (oneL Q g cap foc ⟨hd, true, tc, ck, F, .slice ua n uc, r⟩) (l2 := ro 126 5 r F.redo.length (rows encE F.redo) :: l) HA.out (own_at (n := 1) (size := 5) (Blk.new w6 (encE ⟨a, part, x, s, e⟩) 126) rfl (by omega)) (by omega) (encE_one _) (by omega) (by omega) rfl _ _ rfl rfl rfl ?_; intro u2 w7 hA7; obtain ⟨g2, o2, c2, rfl, hc2, _⟩ := Ro.at_ (show Ro w7 126 5 u2 (n + 1) _ from hA7.mid) (by omega); rw [← rows_snoc (enc := encE)] at hA7; have f7' := (one_cell hA7 (j := 7) (by omega)).2; have k7 := (one_cell hA7 (j := 7) (by omega)).1; have f8' := (one_cell hA7 (j := 8) (by omega)).2; have k8 := (one_cell hA7 (j := 8) (by omega)).1; have f2' := (one_cell hA7 (j := 2) (by omega)).2; have k2 := (one_cell hA7 (j := 2) (by omega)).1; simp only [fxC, List.getElem?_cons_succ, List.getElem?_cons_zero] at k7 k8 k2; have HA8 := Lib.hid (one_set hA7 ⟨hd, true, tc, ck, { F with undo := F.undo ++ [⟨a, part, x, s, e⟩] }, .slice (some ⟨g2, o2, none⟩) (n + 1) c2, r⟩ 7 (.slice (some ⟨g2, o2, none⟩) (n + 1) c2) rfl); clear hA7 c7 f7)
        have hA8 := HA8.out
        have hA10 := one_set hA8 ⟨hd, true, tc, ck, { F with undo := F.undo ++ [⟨a, part, x, s, e⟩] }, (.slice (some ⟨g2, o2, none⟩) (n + 1) c2), .slice none 0 0⟩ 8 (.slice none 0 0) rfl
        have hA11 := one_set hA10 ⟨hd, true, tc, ck, { F with val := nw, undo := F.undo ++ [⟨a, part, x, s, e⟩] }, (.slice (some ⟨g2, o2, none⟩) (n + 1) c2), .slice none 0 0⟩ 2 (.string NV) (by rw [← HNV.out]; rfl)
        have HA11 := Lib.hid (All.ro0 (oneL Q g cap foc ⟨hd, true, tc, ck, { F with val := nw, undo := F.undo ++ [⟨a, part, x, s, e⟩] }, (.slice (some ⟨g2, o2, none⟩) (n + 1) c2), .slice none 0 0⟩ ++ [ro 126 5 (.slice (some ⟨g2, o2, none⟩) (n + 1) c2) (n + 1) (rows encE (F.undo ++ [⟨a, part, x, s, e⟩]))]) 126 5 hA11)
        clear hA8 hA10 hA11
        go_wp2_with fail
        refine (HLx.out _).mono ?_
        rintro e' w8 ⟨rfl, hb8⟩
        have hA12 := HA11.out.still hb8
        obtain ⟨d5, f5⟩ := one_cell hA12 (j := 5) (by omega)
        obtain ⟨d6, f6⟩ := one_cell hA12 (j := 6) (by omega)
        have hA13 := one_set hA12 ⟨hd, true, tc, ck, ⟨nw, a + nL x, F.en, (F.undo ++ [⟨a, part, x, s, e⟩]), []⟩, (.slice (some ⟨g2, o2, none⟩) (n + 1) c2), .slice none 0 0⟩ 5 (.int .i64 ((a : Int) + (nL x : Int))) (by simp only [fxC, List.set_cons_succ, List.set_cons_zero, Int.natCast_add])
        have hA14 := one_set hA13 ⟨hd, true, tc, ck, ⟨nw, a + nL x, a + nL x, (F.undo ++ [⟨a, part, x, s, e⟩]), []⟩, (.slice (some ⟨g2, o2, none⟩) (n + 1) c2), .slice none 0 0⟩ 6 (.int .i64 ((a : Int) + (nL x : Int))) (by simp only [fxC, List.set_cons_succ, List.set_cons_zero, Int.natCast_add])
        have HA14 := Lib.hid hA14
        clear hA12 hA13 hA14 hb8
        go_wp2_with fail
        go_ret
        refine ⟨rfl, ?_⟩
        rw [HE.out, keep_snoc _ _ (by rw [HNN.out]; omega), if_neg (by rw [HNN.out]; exact h100)]
        refine FsAt.of (u := (.slice (some ⟨g2, o2, none⟩) (n + 1) c2)) (r := .slice none 0 0) (tc := tc) (ck := ck) (g := g) (cap := cap) ?_
        have hLn : (F.undo ++ [(⟨a, part, x, s, e⟩ : FE)]).length = n + 1 := by rw [List.length_append, List.length_singleton, HNN.out]
        show All B w0 (oneL Q g cap foc _ ++ ro 126 5 (.slice (some ⟨g2, o2, none⟩) (n + 1) c2) (F.undo ++ [(⟨a, part, x, s, e⟩ : FE)]).length (rows encE (F.undo ++ [(⟨a, part, x, s, e⟩ : FE)])) :: (ro 126 5 (.slice none 0 0) 0 [] :: l)) _
        rw [hLn]
        exact HA14.out
end
end Go.Proofs.YtacdbnhnhdlmpaaGreatDoor.W
end
section
namespace Go.Proofs.YtacdbnhnhdlmpaaGreatDoor.W
open Go.RowKit
theorem r_disable (w : World) : (callFunc 188 #[]).run Tryz.prog w = .ok (.value (.tuple #[])) w := run_call_mark0 Tryz.func188 (by kernel_rfl) (by kernel_rfl) (by kernel_rfl) .disable (by kernel_rfl) w
theorem r_enable (w : World) : (callFunc 190 #[]).run Tryz.prog w = .ok (.value (.tuple #[])) w := run_call_mark0 Tryz.func190 (by kernel_rfl) (by kernel_rfl) (by kernel_rfl) .enable (by kernel_rfl) w
theorem r_acquire (a : Addr) (w : World) : (callFunc 191 #[.pointer (some a)]).run Tryz.prog w = .ok (.value (.tuple #[])) w := run_call_marked Tryz.func191 (by kernel_rfl) (by kernel_rfl) (by kernel_rfl) .acquire (by kernel_rfl) a w
theorem r_merge (a : Addr) (w : World) : (callFunc 193 #[.pointer (some a)]).run Tryz.prog w = .ok (.value (.tuple #[])) w := run_call_marked Tryz.func193 (by kernel_rfl) (by kernel_rfl) (by kernel_rfl) .releaseMerge (by kernel_rfl) a w
theorem store_deferred (a : Addr) (x : Value) (u : FrameMode) (w : World) (hc : w.cell? a = some x) (hz : w.frozen? a = false) :
    CallsD Tryz.prog 176 #[.pointer (some a), .bool true] u w fun e u' w' => u' = u ∧ (e = .returned (.tuple #[]) ∧ w' = w.drew.setCell a (.int .u32 1)) := by
  have hc' : w.drew.cell? a = some x := by go_simp
  have hz' : w.drew.frozen? a = false := by go_simp
  have hst := run_call_store (P := Tryz.prog) Tryz.func184 (by kernel_rfl) (by kernel_rfl) (by kernel_rfl) (by kernel_rfl) (k := .u32) (y := 1) hc' hz'
  go_enter_d Tryz.func176, Tryz.ntmps176
  go_wp2
  go_region_calls
  all_goals (go_end0; exact ⟨rfl, rfl⟩)
set_option maxRecDepth 100000 in
theorem unlock_deferred (a : Addr) (u : FrameMode) (w : World) (hc : w.cell? a = some (.int .i32 1)) (hz : w.frozen? a = false) :
    CallsD Tryz.prog 175 #[.pointer (some a)] u w fun e u' w' => u' = u ∧ (e = .returned (.tuple #[]) ∧ w' = w.setCell a (.int .i32 0)) := by
  have hd := r_disable
  have he := r_enable
  have hr := r_merge
  have hadd := run_call_add (P := Tryz.prog) Tryz.func194 (by kernel_rfl) (by kernel_rfl) (by kernel_rfl) .i32 (by kernel_rfl) (y := -1) (s := 0) hc hz (by simp [go_sem]; rfl)
  have hcv := run_convert_to_unsafe (P := Tryz.prog) (src := 274) (dst := 243) Tryz.underlying274 Tryz.underlying243 (by kernel_rfl) hc
  go_enter_d Tryz.func175, Tryz.ntmps175
  go_wp2
  go_end0
  go_wp2
  go_end0
  exact ⟨rfl, rfl⟩
set_option maxRecDepth 100000 in
theorem lock_free (a : Addr) (w : World) (hc : w.cell? a = some (.int .i32 0)) (hz : w.frozen? a = false) :
    Calls Tryz.prog 174 #[.pointer (some a)] w fun e w' => e = .returned (.tuple #[]) ∧ w' = w.setCell a (.int .i32 1) := by
  have hd := r_disable
  have he := r_enable
  have ha := r_acquire
  have hcas := run_call_cas_hit (P := Tryz.prog) Tryz.func189 (by kernel_rfl) (by kernel_rfl) (by kernel_rfl) .i32 (by kernel_rfl) (y := 1) hc hz
  have hc' : (w.setCell a (.int .i32 1)).cell? a = some (.int .i32 1) := World.cell?_setCell_same w a _ hc
  have hcv := run_convert_to_unsafe (P := Tryz.prog) (src := 274) (dst := 243) Tryz.underlying274 Tryz.underlying243 (by kernel_rfl) hc'
  go_enter Tryz.func174, Tryz.ntmps174
  go_wp2
  first | go_end0 | (simp only [Exit.inBlock, Exit.then]; refine bodyPost_ret (results_none rfl _ _ _) rfl ?_) | refine bodyPost_ret (results_none rfl _ _ _) rfl ?_
  go_wp2
  go_end0
  exact ⟨rfl, rfl⟩
theorem flag_clear (a : Addr) (w : World) (hc : w.cell? a = some (.int .u32 0)) :
    Calls Tryz.prog 161 #[.pointer (some a)] w fun e w' => e = .returned (.bool false) ∧ w' = w := by
  have hl := run_call_load (P := Tryz.prog) Tryz.func173 (by kernel_rfl) (by kernel_rfl) (by kernel_rfl) .u32 (by kernel_rfl) hc
  go_enter Tryz.func161, Tryz.ntmps161
  go_wp2
  go_ret
  exact ⟨rfl, rfl⟩
set_option maxRecDepth 100000 in
set_option maxHeartbeats 1600000 in
theorem slow_any (b : Nat) (x3 x4 : Value) (w : World) (hb : Blk w b [.int .u32 0, .int .i32 0, .int .u32 0, x3, x4] 215) (Q : Value → Value → World → Prop)
    (hf : ∀ w1, w1 = w.setCell ⟨b, 1, none⟩ (.int .i32 1) → Calls Tryz.prog 145 #[.pointer (some ⟨b, 0, none⟩)] w1 fun e w' => e = .returned (.tuple #[]) ∧ ∃ y3 y4, Blk w' b [.int .u32 0, .int .i32 1, .int .u32 0, y3, y4] 215 ∧ Q y3 y4 w') :
    Calls Tryz.prog 162 #[.pointer (some ⟨b, 0, none⟩), .func (.func 145) #[.pointer (some ⟨b, 0, none⟩)] #[]] w fun e w' => e = .returned (.tuple #[]) ∧
      ∃ w2 y3 y4, Blk w2 b [.int .u32 0, .int .i32 1, .int .u32 0, y3, y4] 215 ∧ Q y3 y4 w2 ∧ w' = (w2.drew.setCell ⟨b, 0, none⟩ (.int .u32 1)).setCell ⟨b, 1, none⟩ (.int .i32 0) := by
  have hb1 := Blk.set hb 1 (.int .i32 1)
  have hl := run_call_load (P := Tryz.prog) Tryz.func173 (by kernel_rfl) (by kernel_rfl) (by kernel_rfl) .u32 (by kernel_rfl) (w := w.setCell ⟨b, 1, none⟩ (.int .i32 1)) (a := ⟨b, 0, none⟩) (x := 0) (hb1.cell 0)
  have hnot : ∀ (x : Bool) (w : World), (Op.unary .not (.bool x)).run Tryz.prog w = .ok (.bool (!x)) w := fun _ _ => rfl
  have c1 := hb.cell 1
  have z1 := hb.free 1
  have HF := Lib.hid hf
  clear hf
  go_enter_defers Tryz.func162, Tryz.ntmps162
  go_wp2_with (go_at_call 174; refine (lock_free ⟨b, 1, none⟩ _ c1 z1).mono ?_; rintro e w' ⟨rfl, rfl⟩)
  refine (flag_clear ⟨b, 0, none⟩ _ (hb1.cell 0)).mono ?_
  rintro e w2 ⟨rfl, hw⟩
  subst w2
  go_wp2_with fail
  refine (HF.out _ rfl).mono ?_
  rintro e w2 ⟨rfl, y3, y4, hb2, hq⟩
  have HB := Lib.hid hb2
  have HQ := Lib.hid hq
  clear hb2 hq HF hb hb1 c1 z1 hl
  go_wp2_with fail
  -- two deferred calls, the last laid first
  refine leaves_cons (f := 176) (args := #[.pointer (some ⟨b, 0, none⟩), .bool true]) (by simp) (by simp [go_sem]) ?_
  refine (store_deferred ⟨b, 0, none⟩ (.int .u32 0) .returning _ (HB.out.cell 0) (HB.out.free 0)).mono ?_
  rintro e u' w'' ⟨rfl, rfl, rfl⟩
  have hb3 : Blk (w2.drew.setCell ⟨b, 0, none⟩ (.int .u32 1)) b [.int .u32 1, .int .i32 1, .int .u32 0, y3, y4] 215 := Blk.set (w := w2.drew) HB.out 0 (.int .u32 1)
  refine leaves_cons (f := 175) (args := #[.pointer (some ⟨b, 1, none⟩)]) (by simp [settle]) (by simp [go_sem]) ?_
  refine (unlock_deferred ⟨b, 1, none⟩ _ _ (hb3.cell 1) (hb3.free 1)).mono ?_
  rintro e u' w'' ⟨rfl, rfl, rfl⟩
  simp [Leaves, settle, results, Tryz.results162]
  exact ⟨_, _, _, HB.out, HQ.out, rfl⟩
set_option maxRecDepth 100000 in
set_option maxHeartbeats 1600000 in
theorem do_first (b : Nat) (x3 x4 : Value) (w : World) (hb : Blk w b [.int .u32 0, .int .i32 0, .int .u32 0, x3, x4] 215) (Q : Value → Value → World → Prop)
    (hf : ∀ w1, w1 = w.setCell ⟨b, 1, none⟩ (.int .i32 1) → Calls Tryz.prog 145 #[.pointer (some ⟨b, 0, none⟩)] w1 fun e w' => e = .returned (.tuple #[]) ∧ ∃ y3 y4, Blk w' b [.int .u32 0, .int .i32 1, .int .u32 0, y3, y4] 215 ∧ Q y3 y4 w') :
    Calls Tryz.prog 144 #[.pointer (some ⟨b, 0, none⟩), .func (.func 145) #[.pointer (some ⟨b, 0, none⟩)] #[]] w fun e w' => e = .returned (.tuple #[]) ∧
      ∃ w2 y3 y4, Blk w2 b [.int .u32 0, .int .i32 1, .int .u32 0, y3, y4] 215 ∧ Q y3 y4 w2 ∧ w' = (w2.drew.setCell ⟨b, 0, none⟩ (.int .u32 1)).setCell ⟨b, 1, none⟩ (.int .i32 0) := by
  have HS := Lib.hid (slow_any b x3 x4 w hb Q hf)
  have hnot : ∀ (x : Bool) (w : World), (Op.unary .not (.bool x)).run Tryz.prog w = .ok (.bool (!x)) w := fun _ _ => rfl
  clear hf
  go_enter Tryz.func144, Tryz.ntmps144
  go_wp2_with fail
  refine (flag_clear ⟨b, 0, none⟩ _ (hb.cell 0)).mono ?_
  rintro e w2 ⟨rfl, hw⟩
  subst w2
  go_wp2_with fail
  refine HS.out.mono ?_
  rintro e w2 ⟨rfl, hw⟩
  go_wp2_with fail
  go_end0
  exact ⟨rfl, hw⟩
end Go.Proofs.YtacdbnhnhdlmpaaGreatDoor.W
namespace Go.Proofs.YtacdbnhnhdlmpaaGreatDoor.W
open Go.RowKit
theorem new2 (w : World) (A : Obj) (x : Value) (t : TypeId) : ∀ j u, [x][j]? = some u → ((w.alloc A).alloc (.cells #[x] t)).cell? ((⟨w.heap.size + 1, 0, none⟩ : Addr).add j) = some u := by
  have h := cell_one_new (w.alloc A) x t
  rw [show (w.alloc A).heap.size = w.heap.size + 1 by simp] at h
  exact h
theorem infoS : (Tryz.prog.info? 9).map (fun i => (i.zero, i.size, i.bytes)) = some (some (.string ⟨#[]⟩), 1, 16) := by kernel_rfl
end Go.Proofs.YtacdbnhnhdlmpaaGreatDoor.W
namespace Go.Proofs.YtacdbnhnhdlmpaaGreatDoor.W
open Go.RowKit
theorem byteCells_length (l : List UInt8) : (Lib.byteCells l).length = l.length := by unfold Lib.byteCells; simp
end Go.Proofs.YtacdbnhnhdlmpaaGreatDoor.W
namespace Go.Proofs.YtacdbnhnhdlmpaaGreatDoor.W
open Go.RowKit
def strC (l : List UInt8) : Value := .string ⟨l.toArray⟩
set_option maxRecDepth 100000 in
set_option maxHeartbeats 2000000 in
theorem newRep_any (B A : Nat) (xs : List (List UInt8)) (w : World) (hx : xs.length % 2 = 0) (hp : 0 < xs.length) (hn : xs.length ≤ 8) (hA : ∀ j u, (xs.map strC)[j]? = some u → w.cell? ⟨A, j, none⟩ = some u) (hB : B ≤ w.heap.size) :
    Calls Tryz.prog 118 #[.slice (some ⟨A, 0, none⟩) xs.length xs.length] w fun e w' => ∃ r v, e = .returned (.pointer (some ⟨r, 0, none⟩)) ∧ B ≤ r ∧ Blk w' r [.int .u32 0, .int .i32 0, .int .u32 0, .nilIface, v] 215 ∧
      w'.ownsRow B 9 1 v xs.length (xs.map strC) ∧ Below B w w' := by
  obtain ⟨i0, hi, hz0, hz1, hz2⟩ := info_parts infoS
  have hmod : ¬ ((xs.length : Int) % 2 = 1) := by omega
  have hlen : (xs.map strC).length = xs.length * 1 := by simp
  have HN := Lib.hid (show ∀ j u, (xs.map strC)[j]? = some u → w.cell? ((⟨A, 0, none⟩ : Addr).add j) = some u from fun j u hj => by
    rw [show (⟨A, 0, none⟩ : Addr).add j = ⟨A, j, none⟩ by unfold Addr.add; split <;> simp_all]; exact hA j u hj)
  have h1 : ∀ u ∈ xs.map strC, u.oneCell' = true := by
    intro u hu; obtain ⟨x, _, rfl⟩ := List.mem_map.1 hu; rfl
  clear hA
  go_enter Tryz.func118, Tryz.ntmps118
  go_wp2_with (at_builtin; refine wpList_append_own _ rfl _ _ 34 rfl B 9 i0 _ 1 16 Tryz.underlying34 hi hz0 hz1 hz2 rfl (by decide) _ 0 [] rfl (World.ownsRow_nil _ _ _ _) _ xs.length xs.length (xs.map strC) rfl hlen HN.out h1 ?c1 ?c2 ?c3 ?_)
  case c1 => unfold maxLen; omega
  case c2 => omega
  case c3 => exact hB
  intro v' w2 hown hgr _
  have hB2 : Below B w w2 := (Below.refl B w).grown hgr hB (fun k hk => by simp [Value.ownBlock] at hk)
  obtain ⟨g, cap, hv, hlt⟩ : ∃ g cap, v' = .slice (some ⟨g, 0, none⟩) xs.length cap ∧ g < w2.heap.size := by
    rcases hown.2 with ⟨_, h⟩ | ⟨g, cap, cur, hv, _, hh, _⟩
    · omega
    · exact ⟨g, cap, hv, lt_of_block hh⟩
  have HO := Lib.hid (show ∀ o, (w2.alloc o).ownsRow B 9 1 v' xs.length (xs.map strC) from fun o => hown.alloc o)
  rw [hv] at HO
  clear hown hgr
  subst hv
  go_wp2_with fail
  go_ret
  exact ⟨_, _, rfl, Nat.le_trans hB hB2.size, Blk.new w2 [.int .u32 0, .int .i32 0, .int .u32 0, .nilIface, .slice (some ⟨g, 0, none⟩) xs.length cap] _, HO.out _, hB2.alloc (Nat.le_trans hB hB2.size) _⟩
end Go.Proofs.YtacdbnhnhdlmpaaGreatDoor.W
end
