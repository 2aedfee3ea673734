/- Texts joined: StC. -/
import Derived.Test.YtacdbnhnhdlmpaaGreatDoorFH5
import Derived.LoopTactic
import Derived.Deep.CutBlock
set_option maxRecDepth 100000
set_option maxHeartbeats 40000000
set_option linter.unusedVariables false
set_option linter.unusedSimpArgs false
section
namespace Go.Proofs.YtacdbnhnhdlmpaaGreatDoor.W
open Go.RowKit
theorem All.new2 {B : Nat} {w0 w w' : World} {o1 o2 : Ob} {l : List Ob} (h : All B w0 l w) (hb : Below w.heap.size w w') (h1 : o1.P w') (h2 : o2.P w') (f1 : ∀ k, o1.F k → w.heap.size ≤ k) (f2 : ∀ k, o2.F k → w.heap.size ≤ k) (hd : ∀ k, o1.F k → ¬ o2.F k) : All B w0 (o1 :: o2 :: l) w' := by
  have hA := h.new h2 hb f2
  refine ⟨fun o ho => ?_, ?_, fun o ho => ?_, hA.below, hA.le⟩
  · rcases List.mem_cons.1 ho with rfl | ho
    · exact h1
    · exact hA.P o ho
  · rw [List.pairwise_cons]
    refine ⟨fun x hx k q1 q2 => ?_, hA.apart⟩
    rcases List.mem_cons.1 hx with rfl | hx
    · exact hd k q1 q2
    · have := f1 k q1
      have := x.here w (h.P x hx) k q2
      omega
  · rcases List.mem_cons.1 ho with rfl | ho
    · exact fun k hk => Nat.le_trans h.le (f1 k hk)
    · exact hA.base o ho
def RwC (W : World) (e : TypeId) (sz n : Nat) (xs : List Value) (k : List Value) (Y : List Ob) (w' : World) : Prop :=
  (Below W.heap.size W w' ∧ ∀ o ∈ Y, o.P w' ∧ ∀ k, o.F k → W.heap.size ≤ k) ∧ ∀ v k', k = v :: k' → w'.ownsRow W.heap.size e sz v n xs
theorem RwC.below {W : World} {e : TypeId} {sz n : Nat} {xs : List Value} {k : List Value} {Y : List Ob} {w' w2 : World} (h : RwC W e sz n xs k Y w') (hb : Below w'.heap.size w' w2) : RwC W e sz n xs k Y w2 :=
  ⟨⟨bthen h.1.1 hb, fun o ho => ⟨o.loc w' _ (h.1.2 o ho).1 (fun b hb' => hb.block b (o.here w' (h.1.2 o ho).1 b hb')), (h.1.2 o ho).2⟩⟩, fun v k' e => own_keepB (h.2 v k' e) hb⟩
theorem RwC.alloc {W : World} {e : TypeId} {sz n : Nat} {xs : List Value} (k : List Value) (Y : List Ob) (w' : World) (cs : List Value) (ty : TypeId) (h : RwC W e sz n xs k Y w') : RwC W e sz n xs k (bk w'.heap.size cs ty :: Y) (w'.alloc (.cells cs.toArray ty)) := by
  have h2 := h.below (w2 := w'.alloc (.cells cs.toArray ty)) ((Below.refl _ _).alloc (Nat.le_refl _) _)
  refine ⟨⟨h2.1.1, fun o ho => ?_⟩, h2.2⟩
  rcases List.mem_cons.1 ho with rfl | ho
  · exact ⟨Blk.new w' cs ty, fun k hk => by rw [show k = w'.heap.size from hk]; exact h.1.1.size⟩
  · exact h2.1.2 o ho
theorem RwC.perm {W : World} {e : TypeId} {sz n : Nat} {xs : List Value} (k : List Value) (Y Z : List Ob) (w' : World) (hp : Y.Perm Z) (h : RwC W e sz n xs k Y w') : RwC W e sz n xs k Z w' := ⟨⟨h.1.1, fun o ho => h.1.2 o (hp.mem_iff.2 ho)⟩, h.2⟩
def StS (Q : Nat) (fa : Value) (foc : Int) (w' : World) : Prop := w'.cell? ⟨Q, 0, none⟩ = some fa ∧ w'.cell? ⟨Q, 1, none⟩ = some (.int .i64 foc)
def EsS (C g j : Nat) (fa uv : Value) (w' : World) : Prop := w'.cell? ⟨C, 0, none⟩ = some fa ∧ w'.cell? ⟨g, j, none⟩ = some uv
theorem res_st {fn : Func} (h : fn.results = #[.cell 2 30]) {tmps : Array Value} {w : World} {r : Nat} {fa : Value} {foc : Int} (hp : tmps.getD 2 undef = .pointer (some ⟨r, 0, none⟩)) (hk : Blk w r [fa, .int .i64 foc] 30) :
    (results fn tmps).run Tryz.prog w = .ok (.agg #[fa, .int .i64 foc]) w := by
  have c0 := hk.cell 0
  have c1 := hk.cell 1
  simp only [List.getElem?_cons_succ, List.getElem?_cons_zero] at c0 c1
  rw [Array.getD_eq_getD_getElem?] at hp
  simp [results, h, hp, go_sem, c0, c1]
def edsO (X : List FX) : List Ob := X.flatMap fxO
theorem edsO_take {X : List FX} {i : Nat} {y : FX} (h : X[i]? = some y) : edsO (X.take (i + 1)) = edsO (X.take i) ++ fxO y := by
  unfold edsO
  rw [List.take_add_one, h, List.flatMap_append]
  simp
def Cp (X X' : List FX) : Prop := X'.length = X.length ∧ ∀ (i : Nat) (x : FX), X[i]? = some x → ∃ u r, X'[i]? = some { x with uv := u, rv := r }
def CpI (X X' : List FX) (i : Nat) : Prop := X'.length = X.length ∧ ∀ (j : Nat) (x : FX), X[j]? = some x → (j < i → ∃ u r, X'[j]? = some { x with uv := u, rv := r }) ∧ (i ≤ j → X'[j]? = some x)
theorem CpI.step {X X' : List FX} {i : Nat} (h : CpI X X' i) {x : FX} (hx : X[i]? = some x) (u r : Value) : CpI X (X'.set i { x with uv := u, rv := r }) (i + 1) := by
  refine ⟨by rw [List.length_set]; exact h.1, fun j y hj => ⟨fun hji => ?_, fun hij => ?_⟩⟩
  · by_cases e : j = i
    · subst e
      rw [hx] at hj; cases hj
      refine ⟨u, r, ?_⟩
      rw [List.getElem?_set_self (by rw [h.1]; exact (List.getElem?_eq_some_iff.1 hx).1)]
    · rw [List.getElem?_set_ne (fun q => e q.symm)]
      exact (h.2 j y hj).1 (by omega)
  · rw [List.getElem?_set_ne (by omega)]
    exact (h.2 j y hj).2 (by omega)
theorem rows_oneM {α : Type} {enc : α → List Value} (l : List α) (h1 : ∀ x ∈ l, ∀ u ∈ enc x, u.oneCell' = true) : ∀ u ∈ rows enc l, u.oneCell' = true := by
  induction l with
  | nil => intro u hu; cases hu
  | cons x l ih =>
    intro u hu
    rcases List.mem_append.1 (show u ∈ enc x ++ rows enc l from hu) with hu | hu
    · exact h1 x (by simp) u hu
    · exact ih (fun y hy => h1 y (by simp [hy])) u hu
theorem perm_mid3 {α : Type} (a x y z : α) (t : List α) : (a :: x :: y :: z :: t).Perm (x :: y :: z :: a :: t) := (List.perm_middle (l₁ := [x, y, z])).symm
section
variable {B : Nat} {w0 w : World} {Q : Nat} {fa : Value} {foc : Int} {X : List FX} {l : List Ob}
set_option maxRecDepth 100000 in
set_option maxHeartbeats 16000000 in
theorem clone_any (h : All B w0 (fsL Q fa foc X ++ l) w) (hX : X.length ≤ 100000) (hro : ∀ x ∈ X, ∀ o ∈ fxO x, o ∈ l) (hfew : ∀ x ∈ X, x.t.undo.length ≤ 1000 ∧ x.t.redo.length ≤ 1000) :
    Calls Tryz.prog 41 #[.pointer (some ⟨Q, 0, none⟩)] w fun e w' => ∃ fa' X', e = .returned (.agg #[fa', .int .i64 foc]) ∧ Cp X X' ∧ All B w0 (sl 119 9 fa' X.length (rows fxC X') :: (edsO X' ++ (fsL Q fa foc X ++ l))) w' := by
  have hsl0 : Own w 119 9 fa X.length (rows fxC X) := h.tail.head
  obtain ⟨fp, fc, rfl⟩ := own_shapeB hsl0
  have hone : ∀ u ∈ rows fxC X, u.oneCell' = true := rows_oneM X (fun x hx u hu0 => by
    have hu := h.P _ (List.mem_append_right _ (hro x hx (ro 126 5 x.uv x.t.undo.length (rows encE x.t.undo)) (by simp [fxO])))
    have hr := h.P _ (List.mem_append_right _ (hro x hx (ro 126 5 x.rv x.t.redo.length (rows encE x.t.redo)) (by simp [fxO])))
    obtain ⟨a1, c1, e1, _⟩ := Ro.shape hu
    obtain ⟨a2, c2, e2, _⟩ := Ro.shape hr
    simp only [fxC, List.mem_cons, List.not_mem_nil, or_false] at hu0
    rcases hu0 with rfl | rfl | rfl | rfl | rfl | rfl | rfl | rfl | rfl <;> first | rfl | (rw [e1]; rfl) | (rw [e2]; rfl))
  have HFc := Lib.hid (fun wx (hb : Below w.heap.size w wx) => fclone_any (Ro.of (own_keepB hsl0 hb)) hone (by omega))
  have hA1 := h.newBkA w.heap.size rfl [.slice none 0 0, .int .i64 0] 30
  have HA1 := Lib.hid hA1
  have HRo := Lib.hid hro
  have HFew := Lib.hid hfew
  have kq : Blk w Q [.slice fp X.length fc, .int .i64 foc] 30 := h.head
  have q0 := (kq.alloc (.cells #[.slice none 0 0, .int .i64 0] 30)).cell 0
  have q1 := (kq.alloc (.cells #[.slice none 0 0, .int .i64 0] 30)).cell 1
  simp only [List.getElem?_cons_succ, List.getElem?_cons_zero] at q0 q1
  have hb1 : Below w.heap.size w (w.alloc (.cells #[.slice none 0 0, .int .i64 0] 30)) := (Below.refl _ _).alloc (Nat.le_refl _) _
  have HB1 := Lib.hid hb1
  clear h hsl0 hone hA1 hro hfew kq hb1
  generalize hn : X.length = n at *
  go_enter Tryz.func41, Tryz.ntmps41
  go_upto_region 1 with fail
  generalize hw1 : w.alloc (.cells #[.slice none 0 0, .int .i64 0] 30) = w1 at *
  go_cut [3] (fun cv wx => ∃ C a c, cv = .pointer (some ⟨C, 0, none⟩) ∧ All B w0 (bk C [.slice a n c, .int .i64 foc] 30 :: sl 119 9 (.slice a n c) n (rows fxC X) :: bk w.heap.size [.slice none 0 0, .int .i64 0] 30 :: (fsL Q (.slice fp n fc) foc X ++ l)) wx)
  case first =>
    have hS1 : ∀ k Y wx, RwC w1 119 9 n (rows fxC X) k Y wx → StS Q (.slice fp n fc) foc wx := fun k Y wx hC => ⟨cell_keep hC.1.1 q0, cell_keep hC.1.1 q1⟩
    have y0 : ∀ x1 : InS (StS Q (.slice fp n fc) foc), x1.w.cell? ⟨Q, 0, none⟩ = some (.slice fp n fc) := fun x1 => x1.h.1
    have y1 : ∀ x1 : InS (StS Q (.slice fp n fc) foc), x1.w.cell? ⟨Q, 1, none⟩ = some (.int .i64 foc) := fun x1 => x1.h.2
    have hne : Nonempty (InS (StS Q (.slice fp n fc) foc)) := ⟨⟨w1, q0, q1⟩⟩
    clear q0 q1
    refine RZ.reg_m ⟨StS Q (.slice fp n fc) foc, RwC w1 119 9 n (rows fxC X), fun _ v => ∃ a c, v = .slice a n c, fun _ g => .pointer (some ⟨g, 0, none⟩), fun _ => [.slice none 0 0, .int .i64 0], fun _ => 30⟩ 11 (by kernel_rfl) (by kernel_rfl) hS1 RwC.alloc RwC.perm ⟨⟨(Below.refl _ _).drew, fun o ho => by cases ho⟩, fun v k' e => by cases e⟩ ?_
    simp only [List.take_succ_cons, List.take_zero, List.drop_succ_cons, List.drop_zero]
    repeat (first
      | (refine RZ.m_held (by rfl) (by rfl) (fun K hK => ?_); go_big_quiet_step (fail); refine wpQuiet_nil ?_; refine hK.out _ ?_; clear hK K)
      | (refine RZ.m_skip (by rfl) ?_; simp only [Act.put, List.setIfInBounds_toArray, List.set_cons_zero, List.set_cons_succ]))
    refine RZ.m_call (by rfl) (by rfl) (fun w => by go_simp; exact ⟨rfl, rfl⟩) ⟨_, none, 0, rfl⟩ (fun Y wx hx => ?_) (fun v hv => ?_)
    · refine (HFc.out wx (bthen HB1.out hx.1.1)).mono ?_
      rintro e w2 ⟨v', rfl, ho, hb2⟩
      have h2 := RwC.below hx hb2
      exact ⟨v', rfl, own_shapeB ho, h2.1, fun v k' e => by cases e; exact own_low ho hx.1.1.size⟩
    obtain ⟨va, vc, rfl⟩ := hv
    simp only [Act.put, List.setIfInBounds_toArray, List.set_cons_zero, List.set_cons_succ]
    repeat (first
      | (refine RZ.m_held (by rfl) (by rfl) (fun K hK => ?_); go_big_quiet_step (fail); refine wpQuiet_nil ?_; refine hK.out _ ?_; clear hK K)
      | (refine RZ.m_skip (by rfl) ?_; simp only [Act.put, List.setIfInBounds_toArray, List.set_cons_zero, List.set_cons_succ]))
    refine RZ.m_made (fun g => .pointer (some ⟨g, 0, none⟩)) [.slice none 0 0, .int .i64 0] 30 rfl rfl rfl (by rfl) (by rfl) (fun w => by go_simp) ?_
    intro C
    simp only [Act.put, List.setIfInBounds_toArray, List.set_cons_zero, List.set_cons_succ]
    refine RZ.m_nil ?_
    intro w6 hC6
    have ho6 := hC6.2 _ _ rfl
    obtain ⟨kC, hCk⟩ := hC6.1.2 (bk C [.slice none 0 0, .int .i64 0] 30) (by simp)
    have hkC : Blk w6 C [.slice none 0 0, .int .i64 0] 30 := kC
    have hA6 := HA1.out.new2 (o1 := bk C [.slice none 0 0, .int .i64 0] 30) (o2 := sl 119 9 (.slice va n vc) n (rows fxC X)) hC6.1.1 hkC (own_low ho6 (Nat.zero_le _)) hCk (fun k hk => (ho6.lt k hk).1) (fun k h1 h2 => by
      obtain ⟨cg, hg⟩ := own_blk (show Own w6 119 9 (.slice va n vc) n (rows fxC X) from own_low ho6 (Nat.zero_le _)) (b := k) h2
      obtain rfl : k = C := h1
      exact blk_ne hkC hg (by decide) rfl)
    have hA7 := All.setBk [] hA6 0 (.slice va n vc)
    have hA8 := All.setBk [] hA7 1 (.int .i64 foc)
    have HA8 := Lib.hid hA8
    have s0 := hkC.cell 0
    have s1 := hkC.cell 1
    have f0 := hkC.free 0
    have f1 := hkC.free 1
    simp only [List.getElem?_cons_succ, List.getElem?_cons_zero] at s0 s1
    clear hC6 ho6 kC hCk hkC hA6 hA7 hA8 y0 y1 hne hS1
    go_wp2_with fail
    go_meet
    exact ⟨C, va, vc, rfl, HA8.out⟩
  case rest =>
  obtain ⟨C, va, vc, rfl, hA2⟩ := hcut
  have HA2 := Lib.hid hA2
  have hkc : Blk wc C [.slice va n vc, .int .i64 foc] 30 := hA2.head
  have c0 := hkc.cell 0
  simp only [List.getElem?_cons_succ, List.getElem?_cons_zero] at c0
  clear hA2 hkc HA1 HFc
  go_wp2_with fail
  go_loopw [18] (fun iv wr => ∃ (i : Nat) (X1 : List FX) (D : List Ob), i ≤ n ∧ iv = .int .i64 (i : Int) ∧ CpI X X1 i ∧ D.Perm (edsO (X1.take i)) ∧ All B w0 (bk C [.slice va n vc, .int .i64 foc] 30 :: sl 119 9 (.slice va n vc) n (rows fxC X1) :: bk w.heap.size [.slice none 0 0, .int .i64 0] 30 :: (D ++ (fsL Q (.slice fp n fc) foc X ++ l))) wr) (fun iv _ => n - (intOf iv).toNat)
  case atStart => exact ⟨0, X, [], by omega, rfl, ⟨rfl, fun j x hx => ⟨fun h => absurd h (by omega), fun _ => hx⟩⟩, by simp [edsO], HA2.out⟩
  case round =>
    obtain ⟨i, X1, D, hin, rfl, hcp, hD, hA⟩ := hrel
    have hkc : Blk wr C [.slice va n vc, .int .i64 foc] 30 := hA.head
    have c0 := hkc.cell 0
    have c1 := hkc.cell 1
    simp only [List.getElem?_cons_succ, List.getElem?_cons_zero] at c0 c1
    have HA := Lib.hid hA
    have HCp := Lib.hid hcp
    have HD := Lib.hid hD
    by_cases hil : i < n
    · obtain ⟨x, hx⟩ : ∃ x, X[i]? = some x := ⟨_, List.getElem?_eq_getElem (by omega)⟩
      have hx1 := (hcp.2 i x hx).2 (Nat.le_refl _)
      have hmx := List.mem_of_getElem? hx
      obtain ⟨hf1, hf2⟩ := HFew.out x hmx
      have hsl : Own wr 119 9 (.slice va n vc) n (rows fxC X1) := hA.tail.head
      obtain ⟨g, cap, e, _⟩ := own_some hsl (by omega)
      cases e
      have hcell := fun j (hj : j < 9) => (hsl.cellAt (i * 9 + j) (by omega)).trans (rows_at fxC_len X1 i x hx1 j hj)
      have huo := HRo.out x hmx (ro 126 5 x.uv x.t.undo.length (rows encE x.t.undo)) (by simp [fxO])
      have hroo := HRo.out x hmx (ro 126 5 x.rv x.t.redo.length (rows encE x.t.redo)) (by simp [fxO])
      have hin2 := fun o (ho : o ∈ l) => (show o ∈ bk C [.slice (some ⟨g, 0, none⟩) n vc, .int .i64 foc] 30 :: sl 119 9 (.slice (some ⟨g, 0, none⟩) n vc) n (rows fxC X1) :: bk w.heap.size [.slice none 0 0, .int .i64 0] 30 :: (D ++ (fsL Q (.slice fp n fc) foc X ++ l)) from by simp [ho])
      have hU : Ro wr 126 5 x.uv x.t.undo.length (rows encE x.t.undo) := (show (ro 126 5 x.uv x.t.undo.length (rows encE x.t.undo)).P wr from hA.P _ (hin2 _ huo))
      have hR : Ro wr 126 5 x.rv x.t.redo.length (rows encE x.t.redo) := (show (ro 126 5 x.rv x.t.redo.length (rows encE x.t.redo)).P wr from hA.P _ (hin2 _ hroo))
      have c7 := hcell 7 (by omega)
      have c8 := hcell 8 (by omega)
      have f7 := hsl.frozenAt (i * 9 + 7)
      have f8 := hsl.frozenAt (i * 9 + 8)
      simp only [fxC, List.getElem?_cons_succ, List.getElem?_cons_zero] at c7 c8
      obtain ⟨ua, uc, hue, _⟩ := hU.shape
      obtain ⟨ra, rc, hre, _⟩ := hR.shape
      rw [hue] at c7
      rw [hre] at c8
      have HU := Lib.hid hU
      have HR := Lib.hid hR
      have HX := Lib.hid hx
      have HX1 := Lib.hid hx1
      rw [hue] at HU
      rw [hre] at HR
      have e11 := encE_one
      clear hcell hsl hkc hA hcp hD huo hroo hin2 hU hR hue hre hmx hx hx1
      go_upto_region 5 with fail
      go_cut [] (fun wx => ∃ u2, All B w0 (bk C [.slice (some ⟨g, 0, none⟩) n vc, .int .i64 foc] 30 :: sl 119 9 (.slice (some ⟨g, 0, none⟩) n vc) n (rows fxC (X1.set i { x with uv := u2 })) :: bk w.heap.size [.slice none 0 0, .int .i64 0] 30 :: ((ro 126 5 u2 x.t.undo.length (rows encE x.t.undo) :: D) ++ (fsL Q (.slice fp n fc) foc X ++ l))) wx)
      case first =>
        have hS1 : ∀ k Y wx, RwC wr 126 5 x.t.undo.length (rows encE x.t.undo) k Y wx → EsS C g (i * 9 + 7) (.slice (some ⟨g, 0, none⟩) n vc) (.slice ua (x.t.undo.length) uc) wx := fun k Y wx hC => ⟨cell_keep hC.1.1 c0, cell_keep hC.1.1 c7⟩
        have y0 : ∀ x1 : InS (EsS C g (i * 9 + 7) (.slice (some ⟨g, 0, none⟩) n vc) (.slice ua (x.t.undo.length) uc)), x1.w.cell? ⟨C, 0, none⟩ = some (.slice (some ⟨g, 0, none⟩) n vc) := fun x1 => x1.h.1
        have y1 : ∀ x1 : InS (EsS C g (i * 9 + 7) (.slice (some ⟨g, 0, none⟩) n vc) (.slice ua (x.t.undo.length) uc)), x1.w.cell? ⟨g, i * 9 + 7, none⟩ = some (.slice ua (x.t.undo.length) uc) := fun x1 => x1.h.2
        have hne : Nonempty (InS (EsS C g (i * 9 + 7) (.slice (some ⟨g, 0, none⟩) n vc) (.slice ua (x.t.undo.length) uc))) := ⟨⟨wr, c0, c7⟩⟩
        clear c0 c1
        refine RZ.reg_m ⟨EsS C g (i * 9 + 7) (.slice (some ⟨g, 0, none⟩) n vc) (.slice ua (x.t.undo.length) uc), RwC wr 126 5 x.t.undo.length (rows encE x.t.undo), fun _ v => ∃ a c, v = .slice a x.t.undo.length c, fun _ g => .pointer none, fun _ => [], fun _ => 30⟩ 12 (by kernel_rfl) (by kernel_rfl) hS1 RwC.alloc RwC.perm ⟨⟨(Below.refl _ _).drew, fun o ho => by cases ho⟩, fun v k' e => by cases e⟩ ?_
        simp only [List.take_succ_cons, List.take_zero, List.drop_succ_cons, List.drop_zero]
        repeat (first
          | (refine RZ.m_held (by rfl) (by rfl) (fun K hK => ?_); go_big_quiet_step (fail); refine wpQuiet_nil ?_; refine hK.out _ ?_; clear hK K)
          | (refine RZ.m_skip (by rfl) ?_; simp only [Act.put, List.setIfInBounds_toArray, List.set_cons_zero, List.set_cons_succ]))
        refine RZ.m_call (by rfl) (by rfl) (fun w => by go_simp; exact ⟨rfl, rfl⟩) ⟨_, none, 0, rfl⟩ (fun Y wx hx => ?_) (fun v hv => ?_)
        · refine (eclone_any ((ro 126 5 (.slice ua (x.t.undo.length) uc) (x.t.undo.length) (rows encE x.t.undo)).loc _ wx HU.out (fun b hb => hx.1.1.block b ((ro 126 5 (.slice ua (x.t.undo.length) uc) (x.t.undo.length) (rows encE x.t.undo)).here _ HU.out b hb))) (rows_oneM _ (fun y _ => encE_one y)) (by omega)).mono ?_
          rintro e w2 ⟨v', rfl, ho, hb2⟩
          have h2 := RwC.below hx hb2
          exact ⟨v', rfl, own_shapeB ho, h2.1, fun v k' e => by cases e; exact own_low ho hx.1.1.size⟩
        obtain ⟨a5, c5, rfl⟩ := hv
        simp only [Act.put, List.setIfInBounds_toArray, List.set_cons_zero, List.set_cons_succ]
        repeat (first
          | (refine RZ.m_held (by rfl) (by rfl) (fun K hK => ?_); go_big_quiet_step (fail); refine wpQuiet_nil ?_; refine hK.out _ ?_; clear hK K)
          | (refine RZ.m_skip (by rfl) ?_; simp only [Act.put, List.setIfInBounds_toArray, List.set_cons_zero, List.set_cons_succ]))
        refine RZ.m_nil ?_
        intro w6 hC6
        have ho6 := hC6.2 _ _ rfl
        have hA5 := (HA.out.still hC6.1.1)
        have hfz := (show Own w6 119 9 (.slice (some ⟨g, 0, none⟩) n vc) n (rows fxC X1) from hA5.tail.head).frozenAt (i * 9 + 7)
        have hcc := (show Own w6 119 9 (.slice (some ⟨g, 0, none⟩) n vc) n (rows fxC X1) from hA5.tail.head).cellAt (i * 9 + 7) (by omega)
        have hA6 := HA.out.new (o := ro 126 5 (.slice a5 (x.t.undo.length) c5) (x.t.undo.length) (rows encE x.t.undo)) (Ro.of (own_low ho6 (Nat.zero_le _))) hC6.1.1 (fun k hk => (ho6.lt k (roF_own hk)).1)
        have hA7 := All.setSl [bk C [.slice (some ⟨g, 0, none⟩) n vc, .int .i64 foc] 30] (hA6.perm (perm_mid3 _ _ _ _ _)) (i * 9 + 7) (.slice a5 (x.t.undo.length) c5)
        rw [← rows_field fxC_len X1 i 7 _ { x with uv := .slice a5 x.t.undo.length c5 } _ HX1.out (by omega) rfl] at hA7
        rw [rows_at fxC_len _ i _ HX1.out _ (by omega)] at hcc
        simp only [fxC, List.getElem?_cons_succ, List.getElem?_cons_zero] at hcc
        have HA7 := Lib.hid hA7
        clear hC6 ho6 hA5 hA6 hA7 y0 y1 hne hS1
        go_wp2_with fail
        go_meet
        exact ⟨_, HA7.out⟩
      case rest =>
      obtain ⟨u2, hA⟩ := hcut
      have hHA := HA
      clear HA
      have hkc : Blk wc C [.slice (some ⟨g, 0, none⟩) n vc, .int .i64 foc] 30 := hA.head
      have c0 := hkc.cell 0
      simp only [List.getElem?_cons_succ, List.getElem?_cons_zero] at c0
      have hx2 : (X1.set i { x with uv := u2 })[i]? = some { x with uv := u2 } := List.getElem?_set_self (by rw [HCp.out.1]; omega)
      have hset : ∀ r2, (X1.set i { x with uv := u2 }).set i { x with uv := u2, rv := r2 } = X1.set i { x with uv := u2, rv := r2 } := fun r2 => List.set_set ..
      have hHX1 := HX1
      clear HX1
      have HX1 := Lib.hid hx2
      have HSet := Lib.hid hset
      have hsl : Own wc 119 9 (.slice (some ⟨g, 0, none⟩) n vc) n (rows fxC (X1.set i { x with uv := u2 })) := hA.tail.head
      have c8 := (hsl.cellAt (i * 9 + 8) (by omega)).trans (rows_at fxC_len _ i _ hx2 8 (by omega))
      have f8 := hsl.frozenAt (i * 9 + 8)
      simp only [fxC, List.getElem?_cons_succ, List.getElem?_cons_zero] at c8
      have huo := HRo.out x (List.mem_of_getElem? HX.out) (ro 126 5 x.rv x.t.redo.length (rows encE x.t.redo)) (by simp [fxO])
      have hR : Ro wc 126 5 x.rv x.t.redo.length (rows encE x.t.redo) := (show (ro 126 5 x.rv x.t.redo.length (rows encE x.t.redo)).P wc from hA.P _ (by simp [huo]))
      have hHR := HR
      clear HR
      obtain ⟨ra, rc, hre, _⟩ := hR.shape
      have HR := Lib.hid hR
      rw [hre] at HR c8
      have HA := Lib.hid hA
      clear hA hkc hx2 hset hsl huo hR hre c7 f7 HU hHR hHA
      generalize hX2 : X1.set i { x with uv := u2 } = X2 at *
      go_upto_region 6 with fail
      have hS1 : ∀ k Y wx, RwC wc 126 5 x.t.redo.length (rows encE x.t.redo) k Y wx → EsS C g (i * 9 + 8) (.slice (some ⟨g, 0, none⟩) n vc) (.slice ra (x.t.redo.length) rc) wx := fun k Y wx hC => ⟨cell_keep hC.1.1 c0, cell_keep hC.1.1 c8⟩
      have y0 : ∀ x1 : InS (EsS C g (i * 9 + 8) (.slice (some ⟨g, 0, none⟩) n vc) (.slice ra (x.t.redo.length) rc)), x1.w.cell? ⟨C, 0, none⟩ = some (.slice (some ⟨g, 0, none⟩) n vc) := fun x1 => x1.h.1
      have y1 : ∀ x1 : InS (EsS C g (i * 9 + 8) (.slice (some ⟨g, 0, none⟩) n vc) (.slice ra (x.t.redo.length) rc)), x1.w.cell? ⟨g, i * 9 + 8, none⟩ = some (.slice ra (x.t.redo.length) rc) := fun x1 => x1.h.2
      have hne : Nonempty (InS (EsS C g (i * 9 + 8) (.slice (some ⟨g, 0, none⟩) n vc) (.slice ra (x.t.redo.length) rc))) := ⟨⟨wc, c0, c8⟩⟩
      clear c0 c1
      refine RZ.reg_m ⟨EsS C g (i * 9 + 8) (.slice (some ⟨g, 0, none⟩) n vc) (.slice ra (x.t.redo.length) rc), RwC wc 126 5 x.t.redo.length (rows encE x.t.redo), fun _ v => ∃ a c, v = .slice a x.t.redo.length c, fun _ g => .pointer none, fun _ => [], fun _ => 30⟩ 12 (by kernel_rfl) (by kernel_rfl) hS1 RwC.alloc RwC.perm ⟨⟨(Below.refl _ _).drew, fun o ho => by cases ho⟩, fun v k' e => by cases e⟩ ?_
      simp only [List.take_succ_cons, List.take_zero, List.drop_succ_cons, List.drop_zero]
      repeat (first
        | (refine RZ.m_held (by rfl) (by rfl) (fun K hK => ?_); go_big_quiet_step (fail); refine wpQuiet_nil ?_; refine hK.out _ ?_; clear hK K)
        | (refine RZ.m_skip (by rfl) ?_; simp only [Act.put, List.setIfInBounds_toArray, List.set_cons_zero, List.set_cons_succ]))
      refine RZ.m_call (by rfl) (by rfl) (fun w => by go_simp; exact ⟨rfl, rfl⟩) ⟨_, none, 0, rfl⟩ (fun Y wx hx => ?_) (fun v hv => ?_)
      · refine (eclone_any ((ro 126 5 (.slice ra (x.t.redo.length) rc) (x.t.redo.length) (rows encE x.t.redo)).loc _ wx HR.out (fun b hb => hx.1.1.block b ((ro 126 5 (.slice ra (x.t.redo.length) rc) (x.t.redo.length) (rows encE x.t.redo)).here _ HR.out b hb))) (rows_oneM _ (fun y _ => encE_one y)) (by omega)).mono ?_
        rintro e w2 ⟨v', rfl, ho, hb2⟩
        have h2 := RwC.below hx hb2
        exact ⟨v', rfl, own_shapeB ho, h2.1, fun v k' e => by cases e; exact own_low ho hx.1.1.size⟩
      obtain ⟨a5, c5, rfl⟩ := hv
      simp only [Act.put, List.setIfInBounds_toArray, List.set_cons_zero, List.set_cons_succ]
      repeat (first
        | (refine RZ.m_held (by rfl) (by rfl) (fun K hK => ?_); go_big_quiet_step (fail); refine wpQuiet_nil ?_; refine hK.out _ ?_; clear hK K)
        | (refine RZ.m_skip (by rfl) ?_; simp only [Act.put, List.setIfInBounds_toArray, List.set_cons_zero, List.set_cons_succ]))
      refine RZ.m_nil ?_
      intro w6 hC6
      have ho6 := hC6.2 _ _ rfl
      have hA5 := (HA.out.still hC6.1.1)
      have hfz := (show Own w6 119 9 (.slice (some ⟨g, 0, none⟩) n vc) n (rows fxC X2) from hA5.tail.head).frozenAt (i * 9 + 8)
      have hcc := (show Own w6 119 9 (.slice (some ⟨g, 0, none⟩) n vc) n (rows fxC X2) from hA5.tail.head).cellAt (i * 9 + 8) (by omega)
      have hA6 := HA.out.new (o := ro 126 5 (.slice a5 (x.t.redo.length) c5) (x.t.redo.length) (rows encE x.t.redo)) (Ro.of (own_low ho6 (Nat.zero_le _))) hC6.1.1 (fun k hk => (ho6.lt k (roF_own hk)).1)
      have hA7 := All.setSl [bk C [.slice (some ⟨g, 0, none⟩) n vc, .int .i64 foc] 30] (hA6.perm (perm_mid3 _ _ _ _ _)) (i * 9 + 8) (.slice a5 (x.t.redo.length) c5)
      rw [← rows_field fxC_len X2 i 8 _ { x with uv := u2, rv := .slice a5 x.t.redo.length c5 } _ HX1.out (by omega) rfl] at hA7
      rw [rows_at fxC_len _ i _ HX1.out _ (by omega)] at hcc
      simp only [fxC, List.getElem?_cons_succ, List.getElem?_cons_zero] at hcc
      have HA7 := Lib.hid hA7
      clear hC6 ho6 hA5 hA6 hA7 y0 y1 hne hS1
      go_wp2_with fail
      go_roundw
      case rel =>
        have h9 := HA7.out
        rw [HSet.out] at h9
        refine ⟨i + 1, X1.set i { x with uv := u2, rv := .slice a5 x.t.redo.length c5 }, ro 126 5 (.slice a5 x.t.redo.length c5) x.t.redo.length (rows encE x.t.redo) :: ro 126 5 u2 x.t.undo.length (rows encE x.t.undo) :: D, by omega, by go_num, HCp.out.step HX.out u2 (.slice a5 x.t.redo.length c5), ?_, h9⟩
        have hy : (X1.set i { x with uv := u2, rv := .slice a5 x.t.redo.length c5 })[i]? = some { x with uv := u2, rv := .slice a5 x.t.redo.length c5 } := List.getElem?_set_self (by rw [HCp.out.1]; omega)
        rw [edsO_take hy, List.take_set_of_le (Nat.le_refl _)]
        refine List.Perm.trans ?_ (List.perm_append_comm)
        exact (List.Perm.swap _ _ _).trans ((HD.out.cons _).cons _)
      case measure => simp [intOf]; omega
    · obtain rfl : i = n := by omega
      have hkr := hA.tail.tail.head
      have hkr : Blk wr w.heap.size [.slice none 0 0, .int .i64 0] 30 := hkr
      have r0 := hkr.cell 0
      have r1 := hkr.cell 1
      have g0 := hkr.free 0
      have g1 := hkr.free 1
      simp only [List.getElem?_cons_succ, List.getElem?_cons_zero] at r0 r1
      have hA7 := All.setBk [bk C [.slice va i vc, .int .i64 foc] 30, sl 119 9 (.slice va i vc) i (rows fxC X1)] hA 0 (.slice va i vc)
      have hA8 := All.setBk [bk C [.slice va i vc, .int .i64 foc] 30, sl 119 9 (.slice va i vc) i (rows fxC X1)] hA7 1 (.int .i64 foc)
      have HA8 := Lib.hid hA8
      have hk9 : Blk ((wr.setCell ⟨w.heap.size, 0, none⟩ (.slice va i vc)).setCell ⟨w.heap.size, 1, none⟩ (.int .i64 foc)) w.heap.size [.slice va i vc, .int .i64 foc] 30 := (hkr.set 0 (.slice va i vc)).set 1 (.int .i64 foc)
      have HK9 := Lib.hid hk9
      clear hkc hA hcp hD hkr hA7 hA8 hk9
      go_wp2_with fail
      refine bodyPost_ret (res_st (by rfl) (by rfl) HK9.out) rfl ?_
      have hlen := HCp.out.1
      have h9 := HA8.out
      have htk : X1.take i = X1 := List.take_of_length_le (by omega)
      have hD9 := HD.out
      rw [htk] at hD9
      refine ⟨_, X1, rfl, ⟨hlen, fun j x hj => (HCp.out.2 j x hj).1 (by have := (List.getElem?_eq_some_iff.1 hj).1; omega)⟩, ?_⟩
      have h10 := (h9.tail.perm (List.Perm.swap _ _ _)).tail
      exact h10.perm ((hD9.append_right _).cons _)
end
end Go.Proofs.YtacdbnhnhdlmpaaGreatDoor.W
end
