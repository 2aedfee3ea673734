/- Texts joined: WdL. -/
import Derived.Test.YtfdofkokiaapoaaGreatDoorGv15
import Derived.Deep.CutBlock
import Derived.Deep.DeepCutAuto
import Derived.Deep.RegionLaw
section
/- watched, of the law: three observers, with the watches of the plans. -/
namespace Go.Proofs.YtfdofkokiaapoaaGreatDoor.W
open Go.RowKit
set_option linter.unusedVariables false
set_option linter.unusedSimpArgs false

set_option maxRecDepth 100000 in
set_option maxHeartbeats 1000000 in
theorem create_obF {B : Nat} {w0 w : World} {g : Nat} {zv : Value} {nx : Int} {zs : List Oz} {l : List Ob} (h : All B w0 (stF g zv nx zs ++ l) w) (cb : Int) (n0 : 0 ≤ nx) (n1 : nx ≤ 1000000) (hl : zs.length ≤ 1000000) :
    Calls Tryz.prog 24 #[.pointer (some ⟨g, 0, none⟩), .int .i64 cb] w fun e w' => ∃ zv', e = .returned (.int .i64 (nx + 1)) ∧ All B w0 (stF g zv' (nx + 1) (zs ++ [(⟨nx + 1, cb, [], []⟩, .slice none 0 0, .slice none 0 0)]) ++ l) w' := by
  have hs : Own _ _ _ _ _ _ := h.tail.head
  obtain ⟨za, zc, rfl⟩ := own_shape hs
  have hA1 := h.setBk [] 2 (.int .i64 (nx + 1))
  have hb0 : Blk _ _ _ _ := h.head
  have a1 := hb0.cell 0
  have a2 := hb0.cell 2
  have af := hb0.free
  have hlt0 := hb0.lt
  simp at a1 a2
  have hb : Blk _ _ _ _ := hA1.head
  have c1 := hb.cell 0
  have c2 := hb.cell 2
  have hlt := hb.lt
  simp only [List.set_cons_succ, List.set_cons_zero, List.getElem?_cons_zero, List.getElem?_cons_succ] at c1 c2
  have HA := Lib.hid hA1
  clear h hs hb hb0 hA1
  go_enter Tryz.func24, Tryz.ntmps24
  go_wp2_with fail
  clear a1 a2 af hlt0
  generalize w.setCell ⟨g, 2, none⟩ (.int .i64 (nx + 1)) = W at *
  have ea : ∀ o, (W.alloc o).cell? ⟨g, 0, none⟩ = some (.slice za zs.length zc) := fun o => (World.cell?_alloc_lt _ _ _ hlt).trans c1
  go_region_law (first
    | (refine step_append_all etO [_] (HA.out.drew.alloc (.cells #[.int .i64 (nx + 1), .int .i64 cb, .slice none 0 0, .slice none 0 0] 60)) (own_at (n := 1) (size := 4) (Blk.new W.drew [.int .i64 (nx + 1), .int .i64 cb, .slice none 0 0, .slice none 0 0] 60) rfl (by omega)) (by intro u hu; simp at hu; rcases hu with rfl | rfl | rfl | rfl <;> rfl) (by omega) (by omega) (by rfl) _ _ (by rfl) (by rfl) (by rfl) ?_; intro v' w2 hA2; have ho : Own _ _ _ _ _ _ := hA2.tail.head; obtain ⟨va, vc, rfl⟩ := own_shape ho; have b2 : Blk _ _ _ _ := hA2.head; have d1 := b2.cell 0; have d2 := b2.cell 2; have df := b2.free; simp only [List.set_cons_succ, List.set_cons_zero, List.getElem?_cons_zero, List.getElem?_cons_succ] at d1 d2; have HB := Lib.hid hA2; clear hA2 ho b2))
  all_goals
    go_wp2_with fail
    go_ret
    refine ⟨.slice va (zs.length + 1) vc, rfl, ?_⟩
    have h9 := ((HB.out.setBk [] 0 (.slice va (zs.length + 1) vc)).nil 86 11).nil 58 7
    have h10 := h9.perm (perm_in [_, _] [_, _] (obF zs) l)
    unfold stF
    rw [List.length_append, rows_snoc]
    simp [obF, encO] at h10 ⊢
    exact h10

/-- the plans in memory -/
def InP (w : World) (A : Option Addr) (n : Nat) (f : Nat → Pl4) : Prop := 0 < n → ∃ b off, A = some ⟨b, off, none⟩ ∧ b < w.heap.size ∧ ∀ j, j < n →
  w.cell? ⟨b, off + j * 4, none⟩ = some (.int .u8 ((f j).ob : Int)) ∧ w.cell? ⟨b, off + j * 4 + 1, none⟩ = some (.int .u8 ((f j).tg : Int)) ∧ w.cell? ⟨b, off + j * 4 + 2, none⟩ = some (.int .u8 ((f j).op : Int)) ∧ w.cell? ⟨b, off + j * 4 + 3, none⟩ = some (.int .u8 ((f j).fl : Int))
/-- watches that the law keeps -/
abbrev Tw := List Wt × Value
def tws (ts : List Tw) : List Value := ts.map fun t => t.2
def twO (ts : List Tw) : List Ob := ts.map fun t => sl 58 7 t.2 t.1.length (rows encW t.1)
theorem twO_split (t1 : List Tw) (t : Tw) (t2 : List Tw) : twO (t1 ++ t :: t2) = twO t1 ++ (sl 58 7 t.2 t.1.length (rows encW t.1) :: twO t2) := by simp [twO]
def ObK (l : List Int) (f : Nat → Pl4) (fs : List Fl) (i j : Nat) (x : Oz) : Prop := x.1.id = (j : Int) + 1 ∧ x.1.cb = 100 + (j : Int) ∧ x.1.rs = [] ∧ x.1.ws.map Wt.bare = plW l f j i ∧ FIn fs x.1.ws
def TwK (l : List Int) (f : Nat → Pl4) (fs : List Fl) (i j : Nat) (t : Tw) : Prop := t.1.map Wt.bare = plW l f j i ∧ FIn fs t.1
def CrR (w : World) (r7 r8 r4 r5 : Nat) (iv : Value) (wr : World) : Prop :=
  ∃ (k : Nat) (zv : Value) (zs : List Oz), k ≤ 3 ∧ iv = .int .i64 (k : Int) ∧ zs.length = k ∧ (∀ (j : Nat) (x : Oz), zs[j]? = some x → x.1.id = (j : Int) + 1 ∧ x.1.cb = 100 + (j : Int) ∧ x.1.rs = [] ∧ x.1.ws = []) ∧
    All w.heap.size w (stF r7 zv (k : Int) zs ++ [bk r8 [.slice none 0 0, .slice none 0 0, .slice none 0 0] 36, bk r4 [.slice none 0 0, .slice none 0 0, .int .i64 0] 34, bk r5 [.slice none 0 0, .slice none 0 0, .slice none 0 0] 36]) wr
def wdT (ts : List Tw) (r8 r4 r5 : Nat) : List Ob := twO ts ++ [bk r8 (tws ts) 36, bk r4 [.slice none 0 0, .slice none 0 0, .int .i64 0] 34, bk r5 [.slice none 0 0, .slice none 0 0, .slice none 0 0] 36]
def WdL (w : World) (l : List Int) (f : Nat → Pl4) (n zg zc r7 r8 r4 r5 : Nat) (iv : Value) (wr : World) : Prop :=
  ∃ (i : Nat) (zs : List Oz) (ts : List Tw) (fs : List Fl), i ≤ n ∧ iv = .int .i64 (i : Int) ∧ zs.length = 3 ∧ ts.length = 3 ∧ (∀ (j : Nat) (x : Oz), zs[j]? = some x → ObK l f fs i j x) ∧ (∀ (j : Nat) (t : Tw), ts[j]? = some t → TwK l f fs i j t) ∧
    All w.heap.size w (stF r7 (.slice (some ⟨zg, 0, none⟩) 3 zc) 3 zs ++ (fo fs :: wdT ts r8 r4 r5)) wr
/-- what watched returns -/
def WdP (w : World) (l : List Int) (f : Nat → Pl4) (n : Nat) (e : Ending) (w' : World) : Prop :=
  ∃ (zg zc : Nat) (zs : List Oz) (ts : List Tw) (fs : List Fl) (v0 v1 v2 : Value), e = .returned (.tuple #[.agg #[.slice (some ⟨zg, 0, none⟩) 3 zc, .slice none 0 0, .int .i64 3], .agg #[v0, v1, v2], .bool true]) ∧ zs.length = 3 ∧ tws ts = [v0, v1, v2] ∧
    (∀ (j : Nat) (x : Oz), zs[j]? = some x → ObK l f fs n j x) ∧ (∀ (j : Nat) (t : Tw), ts[j]? = some t → TwK l f fs n j t) ∧
    All w.heap.size w (sl 60 4 (.slice (some ⟨zg, 0, none⟩) 3 zc) 3 (rows encO zs) :: (obF zs ++ (fo fs :: twO ts))) w'
theorem wd_end {w w6 : World} {X : List Ob} {r4 r5 : Nat} {a0 a1 a2 b0 b1 b2 x0 x1 x2 y0 y1 y2 : Value} {t4 t5 : TypeId} (h0 : All w.heap.size w (X ++ bk r4 [x0, x1, x2] t4 :: [bk r5 [y0, y1, y2] t5]) w6) :
    All w.heap.size w X ((((((w6.setCell ⟨r4, 0, none⟩ a0).setCell ⟨r4, 1, none⟩ a1).setCell ⟨r4, 2, none⟩ a2).setCell ⟨r5, 0, none⟩ b0).setCell ⟨r5, 1, none⟩ b1).setCell ⟨r5, 2, none⟩ b2) ∧
    ((((((w6.setCell ⟨r4, 0, none⟩ a0).setCell ⟨r4, 1, none⟩ a1).setCell ⟨r4, 2, none⟩ a2).setCell ⟨r5, 0, none⟩ b0).setCell ⟨r5, 1, none⟩ b1).setCell ⟨r5, 2, none⟩ b2).cell? ⟨r4, 0, none⟩ = some a0 ∧
    ((((((w6.setCell ⟨r4, 0, none⟩ a0).setCell ⟨r4, 1, none⟩ a1).setCell ⟨r4, 2, none⟩ a2).setCell ⟨r5, 0, none⟩ b0).setCell ⟨r5, 1, none⟩ b1).setCell ⟨r5, 2, none⟩ b2).cell? ⟨r4, 1, none⟩ = some a1 ∧
    ((((((w6.setCell ⟨r4, 0, none⟩ a0).setCell ⟨r4, 1, none⟩ a1).setCell ⟨r4, 2, none⟩ a2).setCell ⟨r5, 0, none⟩ b0).setCell ⟨r5, 1, none⟩ b1).setCell ⟨r5, 2, none⟩ b2).cell? ⟨r4, 2, none⟩ = some a2 ∧
    ((((((w6.setCell ⟨r4, 0, none⟩ a0).setCell ⟨r4, 1, none⟩ a1).setCell ⟨r4, 2, none⟩ a2).setCell ⟨r5, 0, none⟩ b0).setCell ⟨r5, 1, none⟩ b1).setCell ⟨r5, 2, none⟩ b2).cell? ⟨r5, 0, none⟩ = some b0 ∧
    ((((((w6.setCell ⟨r4, 0, none⟩ a0).setCell ⟨r4, 1, none⟩ a1).setCell ⟨r4, 2, none⟩ a2).setCell ⟨r5, 0, none⟩ b0).setCell ⟨r5, 1, none⟩ b1).setCell ⟨r5, 2, none⟩ b2).cell? ⟨r5, 1, none⟩ = some b1 ∧
    ((((((w6.setCell ⟨r4, 0, none⟩ a0).setCell ⟨r4, 1, none⟩ a1).setCell ⟨r4, 2, none⟩ a2).setCell ⟨r5, 0, none⟩ b0).setCell ⟨r5, 1, none⟩ b1).setCell ⟨r5, 2, none⟩ b2).cell? ⟨r5, 2, none⟩ = some b2 := by
  have h1 := ((h0.setBk X 0 a0).setBk X 1 a1).setBk X 2 a2
  rw [List.append_cons] at h1
  have h2 := ((h1.setBk (X ++ [_]) 0 b0).setBk (X ++ [_]) 1 b1).setBk (X ++ [_]) 2 b2
  simp only [List.set_cons_zero, List.set_cons_succ] at h2
  have k4 : Blk _ r4 [a0, a1, a2] t4 := h2.P (bk r4 [a0, a1, a2] t4) (by simp)
  have k5 : Blk _ r5 [b0, b1, b2] t5 := h2.P (bk r5 [b0, b1, b2] t5) (by simp)
  refine ⟨h2.sub ?_, k4.cell 0, k4.cell 1, k4.cell 2, k5.cell 0, k5.cell 1, k5.cell 2⟩
  rw [List.append_assoc]
  exact List.sublist_append_left _ _
theorem wd_re {w w6 : World} {A : List Ob} {fs : List Fl} {ts : List Tw} {r8 r4 r5 : Nat} (h : All w.heap.size w (A ++ (fo fs :: wdT ts r8 r4 r5)) w6) :
    All w.heap.size w ((A ++ (fo fs :: (twO ts ++ [bk r8 (tws ts) 36]))) ++ bk r4 [.slice none 0 0, .slice none 0 0, .int .i64 0] 34 :: [bk r5 [.slice none 0 0, .slice none 0 0, .slice none 0 0] 36]) w6 := by
  simpa only [wdT, List.append_assoc, List.cons_append, List.nil_append] using h
theorem wd_sub (r7 : Nat) (zv : Value) (nx : Int) (zs : List Oz) (fs : List Fl) (T X : List Ob) : (sl 60 4 zv zs.length (rows encO zs) :: (obF zs ++ (fo fs :: T))).Sublist (stF r7 zv nx zs ++ (fo fs :: (T ++ X))) := by
  unfold stF
  simp only [List.append_assoc, List.cons_append, List.nil_append]
  exact .cons _ (.cons_cons _ (List.Sublist.append_left (.cons_cons _ (List.sublist_append_left _ _)) _))
theorem wd_put {B : Nat} {w0 w : World} {X Y F K : Ob} {A T1 T2 C : List Ob} (h : All B w0 ([X] ++ (A ++ (F :: K :: ((T1 ++ (Y :: T2)) ++ C)))) w) : All B w0 (A ++ (F :: ((T1 ++ (X :: T2)) ++ C))) w := by
  have hp : ([X] ++ (A ++ (F :: K :: ((T1 ++ (Y :: T2)) ++ C)))).Perm (A ++ (F :: K :: (T1 ++ (X :: (Y :: T2 ++ C))))) := by
    have := (List.perm_middle (a := X) (l₁ := A ++ (F :: K :: T1)) (l₂ := Y :: T2 ++ C)).symm
    simpa using this
  refine (h.perm hp).sub ?_
  have s1 : ((T1 ++ (X :: T2)) ++ C).Sublist (T1 ++ (X :: (Y :: T2 ++ C))) := by
    rw [List.append_assoc]
    exact List.Sublist.append_left (List.Sublist.cons_cons X (List.Sublist.cons Y (List.Sublist.refl _))) T1
  exact List.Sublist.append_left (List.Sublist.cons_cons F (List.Sublist.cons K s1)) A
theorem plW_hit {l : List Int} {f : Nat → Pl4} {k i : Nat} {p : Pl4} {x : Wb} (hf : f i = p) (hk : p.ob % 3 = k) (hb : wbB l p = x) (hkn : kinds x = true) : plW l f k (i + 1) = addW (plW l f k i) x := by
  rw [plW, hf, hb, if_pos ⟨hk, hkn⟩]
theorem plW_miss {l : List Int} {f : Nat → Pl4} {j i : Nat} {p : Pl4} (hf : f i = p) (h : ¬ (p.ob % 3 = j ∧ kinds (wbB l p) = true)) : plW l f j (i + 1) = plW l f j i := by
  rw [plW, hf, if_neg h]
theorem perm_f (x f : Ob) (A B : List Ob) : (x :: (A ++ (f :: B))).Perm (A ++ (f :: x :: B)) := (List.perm_middle.symm).trans (List.Perm.append_left A (List.Perm.swap f x B))
/-- one of a list is changed -/
theorem get_upd {α : Type} {l1 l2 : List α} {x x' : α} {j : Nat} {y : α} (h : (l1 ++ x' :: l2)[j]? = some y) : (j = l1.length ∧ y = x') ∨ (j ≠ l1.length ∧ (l1 ++ x :: l2)[j]? = some y) := by
  by_cases e : j = l1.length
  · subst e
    rw [get_mid] at h
    exact .inl ⟨rfl, by injection h with h; exact h.symm⟩
  · refine .inr ⟨e, ?_⟩
    rw [← h]
    by_cases e2 : j < l1.length
    · rw [List.getElem?_append_left e2, List.getElem?_append_left e2]
    · rw [List.getElem?_append_right (by omega), List.getElem?_append_right (by omega)]
      obtain ⟨m, hm⟩ : ∃ m, j - l1.length = m + 1 := ⟨j - l1.length - 1, by omega⟩
      rw [hm]
      rfl

set_option maxRecDepth 100000 in
set_option maxHeartbeats 16000000 in
theorem watched_any {w : World} {la : Option Addr} {lc : Nat} {l : List Int} (A : Option Addr) (n c : Nat) (f : Nat → Pl4) (hP : InP w A n f) (hok : ∀ j, (f j).ok) (hl : Own w 3 1 (.slice la l.length lc) l.length (hcells l)) (hn : n ≤ 1000) (hln : l.length ≤ 1000) :
    Calls Tryz.prog 8 #[.slice A n c, .slice la l.length lc] w (WdP w l f n) := by
  have HP := Lib.hid hP
  have HOk := Lib.hid hok
  have HL := Lib.hid hl
  have hA0 := ((((All.start w).newBkA w.heap.size rfl [.slice none 0 0, .slice none 0 0, .int .i64 0] 34).newBkA _ rfl [.slice none 0 0, .slice none 0 0, .slice none 0 0] 36).newBkA _ rfl [.slice none 0 0, .slice none 0 0, .int .i64 0] 34).newBkA _ rfl [.slice none 0 0, .slice none 0 0, .slice none 0 0] 36
  have hs1 : ∀ o : Obj, (w.alloc o).heap.size = w.heap.size + 1 := fun o => by simp
  have hs2 : ∀ o o2 : Obj, ((w.alloc o).alloc o2).heap.size = w.heap.size + 1 + 1 := fun o o2 => by simp
  have hs3 : ∀ o o2 o3 : Obj, (((w.alloc o).alloc o2).alloc o3).heap.size = w.heap.size + 1 + 1 + 1 := fun o o2 o3 => by simp
  rw [hs3, hs2, hs1] at hA0
  have HA0 := Lib.hid hA0
  clear hP hok hl hA0 hs1 hs2 hs3
  go_enter Tryz.func8, Tryz.ntmps8
  go_upto_region 3 with fail
  generalize hr8 : w.heap.size + 1 + 1 + 1 = r8 at *
  generalize hr7 : w.heap.size + 1 + 1 = r7 at *
  generalize hr5 : w.heap.size + 1 = r5 at *
  generalize hr4 : w.heap.size = r4 at *
  generalize (((w.alloc (.cells #[.slice none 0 0, .slice none 0 0, .int .i64 0] 34)).alloc (.cells #[.slice none 0 0, .slice none 0 0, .slice none 0 0] 36)).alloc (.cells #[.slice none 0 0, .slice none 0 0, .int .i64 0] 34)).alloc (.cells #[.slice none 0 0, .slice none 0 0, .slice none 0 0] 36) = w2 at *
  rw [← hr4] at HA0
  have HA1 : Hid (All w.heap.size w (stF r7 (.slice none 0 0) 0 [] ++ [bk r8 [.slice none 0 0, .slice none 0 0, .slice none 0 0] 36, bk r4 [.slice none 0 0, .slice none 0 0, .int .i64 0] 34, bk r5 [.slice none 0 0, .slice none 0 0, .slice none 0 0] 36]) w2) := by
    have h1 := HA0.out.sel [1, 0, 3, 2] (by decide)
    have h2 := (show All w.heap.size w [bk r7 _ _, bk r8 _ _, bk _ _ _, bk r5 _ _] w2 from h1).nil 60 4
    rw [hr4] at h2
    have h3 := h2.swap
    rw [hr4]
    exact Lib.hid h3
  clear HA0
  go_wp2_with fail
  go_loopw [14] (fun iv wr => CrR w r7 r8 r4 r5 iv wr) (fun iv _ => 3 - (intOf iv).toNat)
  case atStart => exact ⟨0, .slice none 0 0, [], by omega, rfl, rfl, (fun j x hx => by simp at hx), HA1.out⟩
  case round =>
    obtain ⟨k, zv, zs, hk, rfl, hzl, hz, hA⟩ := hrel
    by_cases hkl : k < 3
    · have HCr := Lib.hid (create_obF hA (100 + (k : Int)) (by omega) (by omega) (by omega))
      have HZ := Lib.hid hz
      have HZl := Lib.hid hzl
      clear hA hz hzl
      go_wp2_with fail
      refine HCr.out.mono ?_
      rintro e w3 ⟨zv', rfl, hA⟩
      have HA := Lib.hid hA
      clear hA
      go_wp2_with fail
      go_roundw
      case rel =>
        refine ⟨k + 1, zv', _, by omega, by go_num, ?_, fun j x hx => ?_, by rw [show ((k + 1 : Nat) : Int) = (k : Int) + 1 from by omega]; exact HA.out⟩
        · rw [List.length_append, HZl.out]; rfl
        · by_cases e : j < k
          · rw [List.getElem?_append_left (by rw [HZl.out]; exact e)] at hx
            exact HZ.out j x hx
          · have hjk : j = k := by
              have := (List.getElem?_eq_some_iff.1 hx).1
              rw [List.length_append, HZl.out] at this
              simp at this
              omega
            subst hjk
            rw [List.getElem?_append_right (by rw [HZl.out]; exact Nat.le_refl _), HZl.out, Nat.sub_self] at hx
            simp at hx
            subst hx
            exact ⟨rfl, rfl, rfl, rfl⟩
      case measure => simp [intOf]; omega
    · obtain rfl : k = 3 := by omega
      have hzo : Own wr 60 4 zv zs.length _ := hA.tail.head
      rw [hzl] at hzo
      obtain ⟨zg, zc, rfl, _⟩ := own_some hzo (by omega)
      have hA2 : All w.heap.size w (stF r7 (.slice (some ⟨zg, 0, none⟩) 3 zc) 3 zs ++ (fo [(.slice none 0 0, [])] :: wdT [([], .slice none 0 0), ([], .slice none 0 0), ([], .slice none 0 0)] r8 r4 r5)) wr := by
        have h1 := (((hA.nil 58 7).nil 58 7).nil 58 7).fo0
        have h2 := h1.perm (List.perm_append_comm_assoc [_, _, _, _] (stF r7 (.slice (some ⟨zg, 0, none⟩) 3 zc) 3 zs) _)
        exact h2
      have hz' : ∀ (j : Nat) (x : Oz), zs[j]? = some x → ObK l f [(.slice none 0 0, [])] 0 j x := fun j x hx => by
        obtain ⟨h1, h2, h3, h4⟩ := hz j x hx
        exact ⟨h1, h2, h3, by rw [h4]; rfl, by rw [h4]; exact fun y hy => by cases hy⟩
      have HA2 := Lib.hid hA2
      have HZ := Lib.hid hz'
      have HZl := Lib.hid hzl
      clear hA hA2 hz hz' hzl hzo HA1
      go_wp2_with fail
      go_loopw [28] (fun iv wr => WdL w l f n zg zc r7 r8 r4 r5 iv wr) (fun iv _ => n - (intOf iv).toNat)
      case atStart =>
        refine ⟨0, zs, _, _, Nat.zero_le _, rfl, HZl.out, rfl, HZ.out, fun j t ht => ?_, HA2.out⟩
        have : t = ([], .slice none 0 0) := by
          have := List.mem_of_getElem? ht
          simp at this
          exact this
        subst this
        exact ⟨rfl, fun y hy => by cases hy⟩
      case round =>
        clear HA2 HZ HZl
        obtain ⟨i, zs, ts, fs, hi, rfl, hzl, htl, hz, ht, hA⟩ := hrel
        by_cases hin : i < n
        · have hb1 := hA.below
          obtain ⟨pb, po, rfl, hpl, hpc⟩ := HP.out (by omega)
          obtain ⟨q0, q1, q2, q3⟩ := hpc i hin
          have q0 := cell_keep hb1 q0
          have q1 := cell_keep hb1 q1
          have q2 := cell_keep hb1 q2
          have q3 := cell_keep hb1 q3
          have hWL := watch_law (f i) (HOk.out i) (own_below HL.out hb1) hln
          have hobk := (HOk.out i).1
          generalize hfi : f i = p at *
          obtain ⟨ob, tg, op, fl⟩ := p
          simp only [plC] at q0 q1 q2 q3 hWL hobk
          have HWL := Lib.hid hWL
          have HFi := Lib.hid hfi
          obtain ⟨k, hk3, hkob⟩ : ∃ k : Nat, k < 3 ∧ ob % 3 = k := ⟨ob % 3, Nat.mod_lt _ (by omega), rfl⟩
          have hkm : (ob : Int) % 3 = (k : Int) := by omega
          have HKob := Lib.hid hkob
          have HA := Lib.hid hA
          have HZ := Lib.hid hz
          have HT := Lib.hid ht
          have HZl := Lib.hid hzl
          have HTl := Lib.hid htl
          clear hpc hb1 hWL hfi hkob hA hz ht hzl htl
          go_wp2_with fail
          refine HWL.out.mono ?_
          rintro e w3 ⟨fv, rfl, hfo, hfk, hb3⟩
          obtain ⟨⟨t, ki, at', da, su, ol, flt, xv⟩, hx⟩ : ∃ x, wbP l ⟨ob, tg, op, fl⟩ fv = x := ⟨_, rfl⟩
          have hflt : fltN (fl % 4) = flt := congrArg Wt.flt hx
          have hxv : fv = xv := congrArg Wt.fv hx
          have hfl3 : flt.length ≤ 3 := by rw [← hflt]; unfold fltN; simp; omega
          have hfo : Own w3 9 1 fv flt.length (flt.map strV) := by rw [← hflt]; exact hfo
          rw [hx]
          subst hxv
          obtain ⟨xa, xc, rfl⟩ := own_shape hfo
          have HX := Lib.hid hx
          have hA4 := All.addF (stF r7 (.slice (some ⟨zg, 0, none⟩) 3 zc) 3 zs) HA.out hfo hb3 hfk
          have hA5 := (hA4.newBkA w3.heap.size rfl [.int .i64 t, .bool ki, .bool at', .bool da, .bool su, .bool ol, .slice xa flt.length xc] 58).perm (perm_f _ _ _ _)
          simp only [encW]
          have HA5 := Lib.hid hA5
          clear hx hflt hfo hfk hb3 hA4 hA5 HWL HA
          go_upto_region 14 with fail
          clear q0 q1 q2 q3
          generalize hr12 : w3.heap.size = r12 at *
          have HA6 := Lib.hid HA5.out
          clear HA5
          generalize w3.alloc (.cells #[.int .i64 t, .bool ki, .bool at', .bool da, .bool su, .bool ol, .slice xa flt.length xc] 58) = w4 at *
          have kx : Blk w4 r12 [.int .i64 t, .bool ki, .bool at', .bool da, .bool su, .bool ol, .slice xa flt.length xc] 58 := HA6.out.P (bk r12 [.int .i64 t, .bool ki, .bool at', .bool da, .bool su, .bool ol, .slice xa flt.length xc] 58) (by simp)
          have p0 := kx.cell 0
          have p1 := kx.cell 1
          have p2 := kx.cell 2
          have p3 := kx.cell 3
          have p4 := kx.cell 4
          have p5 := kx.cell 5
          have p6 := kx.cell 6
          simp only [List.getElem?_cons_zero, List.getElem?_cons_succ] at p0 p1 p2 p3 p4 p5 p6
          obtain ⟨⟨z, a, b⟩, hzk⟩ : ∃ x, zs[k]? = some x := ⟨_, List.getElem?_eq_getElem (by rw [HZl.out]; exact hk3)⟩
          obtain ⟨hz1, hz2, hz3, hz4, hz5⟩ := HZ.out k _ hzk
          simp only at hz1 hz2 hz3 hz4 hz5
          obtain ⟨z1, z2, rfl, hzk1⟩ := split_at hzk
          have hF : (fo ((.slice xa flt.length xc, flt) :: fs)).P w4 := HA6.out.P (fo _) (by simp)
          have hfx : FltAt w4 ⟨t, ki, at', da, su, ol, flt, .slice xa flt.length xc⟩ := hF (.slice xa flt.length xc, flt) (List.mem_cons_self ..)
          have hfz : ∀ y ∈ z.ws, ∃ a n c, y.fv = .slice a n c := fun y hy => by
            obtain ⟨a, c, e⟩ := own_shape (hF _ (List.mem_cons_of_mem _ (hz5 y hy)))
            exact ⟨a, _, c, e⟩
          have hzn : ∀ y ∈ z1, y.1.id ≠ z.id := fun y hy => by
            obtain ⟨j, hj⟩ := List.mem_iff_getElem?.1 hy
            have hjl : j < z1.length := (List.getElem?_eq_some_iff.1 hj).1
            have h1 := (HZ.out j y (by rw [List.getElem?_append_left hjl]; exact hj)).1
            omega
          have hwl : z.ws.length ≤ 1000 := by
            have h1 := plW_len l f k i
            rw [← hz4, List.length_map] at h1
            omega
          have hA7 : All w.heap.size w (stF r7 (.slice (some ⟨zg, 0, none⟩) (z1 ++ (z, a, b) :: z2).length zc) 3 (z1 ++ (z, a, b) :: z2) ++ (fo ((.slice xa flt.length xc, flt) :: fs) :: bk r12 [.int .i64 t, .bool ki, .bool at', .bool da, .bool su, .bool ol, .slice xa flt.length xc] 58 :: wdT ts r8 r4 r5)) w4 := by
            rw [HZl.out]
            exact HA6.out
          have HZ1 := Lib.hid hz1
          have HZ2 := Lib.hid hz2
          have HZ3 := Lib.hid hz3
          have HZ4 := Lib.hid hz4
          have HZ5 := Lib.hid hz5
          have HZk := Lib.hid hzk1
          by_cases hkk : (ki || at' || da) = true
          · have HW := Lib.hid (watch_wt (z := z) (a := a) (b := b) hA7 hzn (by rw [HZl.out]; omega) ⟨t, ki, at', da, su, ol, flt, .slice xa flt.length xc⟩ hfx (by simp only []; omega) hkk (by omega) hfz)
            rw [hz1] at HW
            simp only [encW, HZl.out] at HW
            have HK := Lib.hid hkk
            clear hz1 hz2 hz3 hz4 hz5 hzk hzk1 hF hfx hfz hzn hA7 kx hkk
            go_wp2_with fail
            refine HW.out.mono ?_
            rintro e w5 ⟨a', ws', fv', rfl, hws, hmem, hA8⟩
            have kx : Blk w5 r12 [.int .i64 t, .bool ki, .bool at', .bool da, .bool su, .bool ol, .slice xa flt.length xc] 58 := hA8.P (bk r12 [.int .i64 t, .bool ki, .bool at', .bool da, .bool su, .bool ol, .slice xa flt.length xc] 58) (by simp)
            clear p0 p1 p2 p3 p4 p5 p6 HA6 HW
            have p0 := kx.cell 0
            have p1 := kx.cell 1
            have p2 := kx.cell 2
            have p3 := kx.cell 3
            have p4 := kx.cell 4
            have p5 := kx.cell 5
            have p6 := kx.cell 6
            simp only [List.getElem?_cons_zero, List.getElem?_cons_succ] at p0 p1 p2 p3 p4 p5 p6
            have HA8 := Lib.hid hA8
            have HWs := Lib.hid hws
            have HMem := Lib.hid hmem
            clear hA8 hws hmem kx
            go_upto_region 15 with fail
            go_cut [60] (fun s wx => s = .bool false ∧ wx = w5)
            case first =>
              have hk := HK.out
              clear HK HA8 HWs HMem HZ HT HZ1 HZ2 HZ3 HZ4 HZ5
              cases ki <;> cases at' <;> cases da <;> first | (exact absurd hk (by decide)) | (go_wp2_with fail; go_meet; exact ⟨rfl, rfl⟩)
            case rest =>
              obtain ⟨rfl, rfl⟩ := hcut
              obtain ⟨⟨L, v⟩, htk⟩ : ∃ t, ts[k]? = some t := ⟨_, List.getElem?_eq_getElem (by rw [HTl.out]; exact hk3)⟩
              have k8 : Blk wc r8 (tws ts) 36 := HA8.out.P (bk r8 (tws ts) 36) (by simp [wdT])
              have hc8 : (tws ts)[k]? = some v := by unfold tws; rw [List.getElem?_map, htk]; rfl
              have pv := (k8.cell k).trans hc8
              have hOw : Own wc 58 7 v L.length (rows encW L) := HA8.out.P (sl 58 7 v L.length (rows encW L)) (by simp only [wdT, twO, List.mem_append, List.mem_cons, List.mem_map]; exact .inr (.inr (.inr (.inl ⟨(L, v), List.mem_of_getElem? htk, rfl⟩))))
              obtain ⟨htk1, htk2⟩ := HT.out k _ htk
              simp only at htk1 htk2
              have hk3i : (k : Int) < 3 := by omega
              have hfL : ∀ y ∈ L, ∃ a n c, y.fv = .slice a n c := fun y hy => by
                have hF : (fo ((fv', flt) :: (.slice xa flt.length xc, flt) :: fs)).P wc := HA8.out.P (fo _) (by simp)
                obtain ⟨a, c, e⟩ := own_shape (hF _ (List.mem_cons_of_mem _ (List.mem_cons_of_mem _ (htk2 y hy))))
                exact ⟨a, _, c, e⟩
              have hLl : L.length ≤ 1000 := by
                have h1 := plW_len l f k i
                rw [← htk1, List.length_map] at h1
                omega
              have HWd := Lib.hid (fun (wx : World) (hb : Below wc.heap.size wc wx) => watched_ref ⟨t, ki, at', da, su, ol, flt, .slice xa flt.length xc⟩ (own_below hOw hb) (by omega) hfL ⟨_, _, _, rfl⟩)
              simp only [encW] at HWd
              have HB8 := Lib.hid (fun (wx : World) (hb : Below wc.heap.size wc wx) => k8.below hb)
              obtain ⟨va, vc, rfl⟩ := own_shape hOw
              have HTk := Lib.hid htk
              have HTk1 := Lib.hid htk1
              have HTk2 := Lib.hid htk2
              have HC8 := Lib.hid hc8
              clear k8 hc8 hOw htk htk1 htk2 hfL
              go_upto_region 20 with fail
              go_region_law (go_simp; go_at_call 27; refine (HWd.out _ (by first | exact Below.refl _ _ | exact (Below.refl _ _).drew)).mono ?_; rintro e w6 ⟨v', rfl, hA9⟩; have k9 := HB8.out _ ((Below.refl _ _).drew.trans hA9.below); have pv6 := (k9.cell k).trans HC8.out; have pf6 := k9.free k; have ho9 : Own _ _ _ _ _ _ := hA9.head; obtain ⟨oa, oc, rfl⟩ := own_shape ho9; have HA9 := Lib.hid hA9; clear hA9 k9 ho9)
              all_goals
                go_wp2_with fail
                go_roundw
                case measure => simp [intOf]; omega
                case rel =>
                  (repeat apply Exists.intro)
                  refine ⟨?_, rfl⟩
                  have h1 := HA8.out.drew.after HA9.out
                  obtain ⟨t1, t2, rfl, htk3⟩ := split_at HTk.out
                  unfold wdT at h1
                  rw [twO_split] at h1
                  have h2 := wd_put h1
                  have h3 := All.setBk (stF r7 (.slice (some ⟨zg, 0, none⟩) 3 zc) 3 (z1 ++ (_, a', b) :: z2) ++ (fo _ :: twO (t1 ++ (refW L ⟨t, ki, at', da, su, ol, flt, .slice xa flt.length xc⟩, .slice oa (refW L ⟨t, ki, at', da, su, ol, flt, .slice xa flt.length xc⟩).length oc) :: t2))) (l2 := [_, _]) (g := r8) (cs := tws (t1 ++ (L, .slice va L.length vc) :: t2)) (t := 36) (by rw [twO_split]; simpa only [List.append_assoc, List.cons_append, List.nil_append] using h2) k (.slice oa (refW L ⟨t, ki, at', da, su, ol, flt, .slice xa flt.length xc⟩).length oc)
                  have ec : (tws (t1 ++ (L, .slice va L.length vc) :: t2)).set k (.slice oa (refW L ⟨t, ki, at', da, su, ol, flt, .slice xa flt.length xc⟩).length oc) = tws (t1 ++ (refW L ⟨t, ki, at', da, su, ol, flt, .slice xa flt.length xc⟩, .slice oa (refW L ⟨t, ki, at', da, su, ol, flt, .slice xa flt.length xc⟩).length oc) :: t2) := by
                    subst htk3
                    unfold tws
                    rw [List.map_append, List.map_cons, List.map_append, List.map_cons, List.set_append_right _ _ (by simp)]
                    simp
                  rw [ec] at h3
                  have hpl : plW l f k (i + 1) = addW (plW l f k i) (Wt.bare ⟨t, ki, at', da, su, ol, flt, .slice xa flt.length xc⟩) := plW_hit HFi.out HKob.out (by rw [← HX.out]; rfl) HK.out
                  have hmiss : ∀ j, j ≠ k → plW l f j (i + 1) = plW l f j i := fun j hj => plW_miss HFi.out (fun hc => hj (by rw [← hc.1, ← HKob.out]))
                  refine ⟨i + 1, z1 ++ (⟨(k : Int) + 1, z.cb, ws', z.rs⟩, a', b) :: z2, t1 ++ (refW L ⟨t, ki, at', da, su, ol, flt, .slice xa flt.length xc⟩, .slice oa (refW L ⟨t, ki, at', da, su, ol, flt, .slice xa flt.length xc⟩).length oc) :: t2, (fv', flt) :: (.slice xa flt.length xc, flt) :: fs, by omega, by go_num, by rw [← HZl.out]; simp, by rw [← HTl.out]; simp, fun j y hy => ?_, fun j y hy => ?_, by simpa only [wdT, List.append_assoc, List.cons_append, List.nil_append] using h3⟩
                  · rcases get_upd (x := (z, a, b)) hy with ⟨rfl, rfl⟩ | ⟨hjne, hy⟩
                    · rw [HZk.out]
                      refine ⟨rfl, HZ2.out, HZ3.out, ?_, fun u hu => ?_⟩
                      · rw [hpl, ← HZ4.out]
                        exact HWs.out
                      · rcases HMem.out u hu with rfl | hu
                        · exact List.mem_cons_self ..
                        · exact List.mem_cons_of_mem _ (List.mem_cons_of_mem _ (HZ5.out u hu))
                    · obtain ⟨y1, y2, y3, y4, y5⟩ := HZ.out j y hy
                      exact ⟨y1, y2, y3, by rw [y4, hmiss j (by rw [← HZk.out]; exact hjne)], fun u hu => List.mem_cons_of_mem _ (List.mem_cons_of_mem _ (y5 u hu))⟩
                  · rcases get_upd (x := (L, .slice va L.length vc)) hy with ⟨rfl, rfl⟩ | ⟨hjne, hy⟩
                    · rw [htk3]
                      refine ⟨?_, fun u hu => ?_⟩
                      · rw [hpl, ← HTk1.out]
                        exact refW_add _ (by rw [HTk1.out]; exact plW_uni l f k i)
                      · rcases refW_mem hu with rfl | hu
                        · exact List.mem_cons_of_mem _ (List.mem_cons_self ..)
                        · exact List.mem_cons_of_mem _ (List.mem_cons_of_mem _ (HTk2.out u hu))
                    · obtain ⟨y1, y2⟩ := HT.out j y hy
                      exact ⟨by rw [y1, hmiss j (by rw [← htk3]; exact hjne)], fun u hu => List.mem_cons_of_mem _ (List.mem_cons_of_mem _ (y2 u hu))⟩
          · have hki : ki = false := by cases ki <;> simp_all
            have hat : at' = false := by cases at' <;> simp_all
            have hda : da = false := by cases da <;> simp_all
            have hmiss : ∀ j, plW l f j (i + 1) = plW l f j i := fun j => plW_miss HFi.out (fun hc => hkk (by have := hc.2; rw [show wbB l ⟨ob, tg, op, fl⟩ = Wt.bare ⟨t, ki, at', da, su, ol, flt, .slice xa flt.length xc⟩ from by rw [← HX.out]; rfl] at this; exact this))
            have HMi := Lib.hid hmiss
            clear hmiss hkk HX
            subst hki hat hda
            have HW := Lib.hid (watch_arg (z := z) (a := a) (b := b) hA7 hzn (by rw [HZl.out]; omega) t su ol xa flt.length xc)
            rw [hz1] at HW
            clear hz1 hz2 hz3 hz4 hz5 hzk hzk1 hF hfx hfz hzn hA7 kx
            go_wp2_with fail
            refine HW.out.mono ?_
            rintro e w5 ⟨rfl, hb5⟩
            have hA8 := HA6.out.still hb5
            have kx : Blk w5 r12 [.int .i64 t, .bool false, .bool false, .bool false, .bool su, .bool ol, .slice xa flt.length xc] 58 := hA8.P (bk r12 [.int .i64 t, .bool false, .bool false, .bool false, .bool su, .bool ol, .slice xa flt.length xc] 58) (by simp)
            clear p0 p1 p2 p3 p4 p5 p6 HA6 HW
            have p1 := kx.cell 1
            have p2 := kx.cell 2
            have p3 := kx.cell 3
            simp only [List.getElem?_cons_zero, List.getElem?_cons_succ] at p1 p2 p3
            have HA8 := Lib.hid hA8
            clear hA8 kx
            go_wp2_with fail
            go_roundw
            case measure => simp [intOf]; omega
            case rel =>
              (repeat apply Exists.intro)
              refine ⟨?_, rfl⟩
              refine ⟨i + 1, z1 ++ (z, a, b) :: z2, ts, (.slice xa flt.length xc, flt) :: fs, by omega, by go_num, HZl.out, HTl.out, fun j y hy => ?_, fun j y hy => ?_, HA8.out.sub (List.Sublist.append_left (List.Sublist.cons_cons _ (List.sublist_cons_self _ _)) _)⟩
              · obtain ⟨y1, y2, y3, y4, y5⟩ := HZ.out j y hy
                exact ⟨y1, y2, y3, by rw [y4, HMi.out], fun u hu => List.mem_cons_of_mem _ (y5 u hu)⟩
              · obtain ⟨y1, y2⟩ := HT.out j y hy
                exact ⟨by rw [y1, HMi.out], fun u hu => List.mem_cons_of_mem _ (y2 u hu)⟩
        · obtain rfl : i = n := by omega
          match ts, htl with
          | [⟨L0, v0⟩, ⟨L1, v1⟩, ⟨L2, v2⟩], _ =>
          have HA := Lib.hid hA
          have HZ := Lib.hid hz
          have HT := Lib.hid ht
          have HZl := Lib.hid hzl
          clear hA hz ht hzl
          have ho0 : Own wr 58 7 v0 L0.length (rows encW L0) := HA.out.P (sl 58 7 v0 L0.length (rows encW L0)) (by simp [wdT, twO])
          have ho1 : Own wr 58 7 v1 L1.length (rows encW L1) := HA.out.P (sl 58 7 v1 L1.length (rows encW L1)) (by simp [wdT, twO])
          have ho2 : Own wr 58 7 v2 L2.length (rows encW L2) := HA.out.P (sl 58 7 v2 L2.length (rows encW L2)) (by simp [wdT, twO])
          obtain ⟨b0, d0, rfl⟩ := own_shape ho0
          obtain ⟨b1, d1, rfl⟩ := own_shape ho1
          obtain ⟨b2, d2, rfl⟩ := own_shape ho2
          clear ho0 ho1 ho2
          have HN4 := Lib.hid (watch_no HA.out.drew 4 (fun y hy => by
            obtain ⟨j, hj⟩ := List.mem_iff_getElem?.1 hy
            have h1 := (HZ.out j y hj).1
            have h2 := (List.getElem?_eq_some_iff.1 hj).1
            rw [HZl.out] at h2
            omega) (by rw [HZl.out]; omega) 0 true false false false false none 0 0)
          have HB7 := Lib.hid (fun (wx : World) (hb : Below wr.heap.size wr wx) => (show Blk wx r7 [.slice (some ⟨zg, 0, none⟩) 3 zc, .slice none 0 0, .int .i64 3] 34 from (HA.out.still hb).head))
          have HB8 := Lib.hid (fun (wx : World) (hb : Below wr.heap.size wr wx) => (show Blk wx r8 [.slice b0 L0.length d0, .slice b1 L1.length d1, .slice b2 L2.length d2] 36 from (HA.out.still hb).P (bk r8 [.slice b0 L0.length d0, .slice b1 L1.length d1, .slice b2 L2.length d2] 36) (by simp [wdT, tws])))
          have HB4 := Lib.hid (fun (wx : World) (hb : Below wr.heap.size wr wx) => (show Blk wx r4 [.slice none 0 0, .slice none 0 0, .int .i64 0] 34 from (HA.out.still hb).P (bk r4 [.slice none 0 0, .slice none 0 0, .int .i64 0] 34) (by simp [wdT])))
          have HB5 := Lib.hid (fun (wx : World) (hb : Below wr.heap.size wr wx) => (show Blk wx r5 [.slice none 0 0, .slice none 0 0, .slice none 0 0] 36 from (HA.out.still hb).P (bk r5 [.slice none 0 0, .slice none 0 0, .slice none 0 0] 36) (by simp [wdT])))
          have k7 := HB7.out wr (Below.refl _ _)
          have k8 := HB8.out wr (Below.refl _ _)
          have c70 := k7.cell 0
          have c71 := k7.cell 1
          have c72 := k7.cell 2
          have c80 := k8.cell 0
          have c81 := k8.cell 1
          have c82 := k8.cell 2
          simp only [List.getElem?_cons_zero, List.getElem?_cons_succ] at c70 c71 c72 c80 c81 c82
          have h84 : r8 ≠ r4 := by omega
          have h48 : r4 ≠ r8 := by omega
          have h45 : r4 ≠ r5 := by omega
          have h54 : r5 ≠ r4 := by omega
          have h58 : r5 ≠ r8 := by omega
          have h85 : r8 ≠ r5 := by omega
          have H9 := Lib.hid (fun (wx : World) (hb : Below wr.heap.size wr wx) => wd_re (HA.out.still hb))
          clear k7 k8
          go_upto_region 22 with fail
          go_region_law (go_simp; go_at_call 26; refine (HN4.out).mono ?_; rintro e w6 ⟨rfl, hb6⟩; have k7 := HB7.out w6 ((Below.refl _ _).drew.trans hb6); have e70 := k7.cell 0; have e71 := k7.cell 1; have e72 := k7.cell 2; have k8 := HB8.out w6 ((Below.refl _ _).drew.trans hb6); have e80 := k8.cell 0; have e81 := k8.cell 1; have e82 := k8.cell 2; have k4 := HB4.out w6 ((Below.refl _ _).drew.trans hb6); have e40 := k4.cell 0; have f40 := k4.free 0; have e41 := k4.cell 1; have f41 := k4.free 1; have e42 := k4.cell 2; have f42 := k4.free 2; have k5 := HB5.out w6 ((Below.refl _ _).drew.trans hb6); have e50 := k5.cell 0; have f50 := k5.free 0; have e51 := k5.cell 1; have f51 := k5.free 1; have e52 := k5.cell 2; have f52 := k5.free 2; simp only [List.getElem?_cons_zero, List.getElem?_cons_succ] at e70 e71 e72 e80 e81 e82 e40 e41 e42 e50 e51 e52; have HB6 := Lib.hid hb6; clear k7 k8 k4 k5 hb6)
          all_goals
            go_wp2_with fail
            obtain ⟨h2, a40, a41, a42, a50, a51, a52⟩ := wd_end (a0 := .slice (some ⟨zg, 0, none⟩) 3 zc) (a1 := .slice none 0 0) (a2 := .int .i64 3) (b0 := .slice b0 L0.length d0) (b1 := .slice b1 L1.length d1) (b2 := .slice b2 L2.length d2) (H9.out w6 ((Below.refl _ _).drew.trans HB6.out))
            refine bodyPost_ret (v := .tuple #[.agg #[.slice (some ⟨zg, 0, none⟩) 3 zc, .slice none 0 0, .int .i64 3], .agg #[.slice b0 L0.length d0, .slice b1 L1.length d1, .slice b2 L2.length d2], .bool true]) (by simp [results, Tryz.results8, go_sem, Act.put, a40, a41, a42, a50, a51, a52]) rfl ?_
            refine ⟨zg, zc, zs, [(L0, Value.slice b0 L0.length d0), (L1, Value.slice b1 L1.length d1), (L2, Value.slice b2 L2.length d2)], fs, _, _, _, rfl, HZl.out, rfl, HZ.out, HT.out, ?_⟩
            have h3 := h2.sub (wd_sub r7 (.slice (some ⟨zg, 0, none⟩) 3 zc) 3 zs fs _ _)
            rw [HZl.out] at h3
            exact h3
end Go.Proofs.YtfdofkokiaapoaaGreatDoor.W
end
