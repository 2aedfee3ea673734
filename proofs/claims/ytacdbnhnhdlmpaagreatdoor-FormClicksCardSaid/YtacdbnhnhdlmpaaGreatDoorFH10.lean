/- Texts joined: Mkt RdP LwR Mvk. -/
import Derived.Test.YtacdbnhnhdlmpaaGreatDoorFH9
import Derived.Deep.CutBlock
set_option maxRecDepth 100000
set_option maxHeartbeats 40000000
set_option linter.unusedVariables false
set_option linter.unusedSimpArgs false
section
namespace Go.Proofs.YtacdbnhnhdlmpaaGreatDoor.W
open Go.RowKit
theorem res_mk {fn : Func} (h : fn.results = #[.cell 8 65]) {tmps : Array Value} {w : World} {r : Nat} {va vb : Value} (hp : tmps.getD 8 undef = .pointer (some ⟨r, 0, none⟩)) (hk : Blk w r [va, vb] 65) :
    (results fn tmps).run Tryz.prog w = .ok (.agg #[va, vb]) w := by
  have c0 := hk.cell 0
  have c1 := hk.cell 1
  simp only [List.getElem?_cons_succ, List.getElem?_cons_zero] at c0 c1
  rw [Array.getD_eq_getD_getElem?] at hp
  simp [results, h, hp, go_sem, c0, c1]
theorem All.newL {B : Nat} {w0 w w' : World} {l L : List Ob} (h : All B w0 l w) (hb : Below w.heap.size w w') (hp : ∀ o ∈ L, o.P w') (hf : ∀ o ∈ L, ∀ k, o.F k → w.heap.size ≤ k) (ha : L.Pairwise fun o p => ∀ k, o.F k → ¬ p.F k) : All B w0 (L ++ l) w' := by
  have h' := h.still hb
  refine ⟨fun o ho => ?_, ?_, fun o ho => ?_, h'.below, h'.le⟩
  · rcases List.mem_append.1 ho with ho | ho
    · exact hp o ho
    · exact h'.P o ho
  · rw [List.pairwise_append]
    refine ⟨ha, h.apart, fun o ho x hx k q1 q2 => ?_⟩
    have := hf o ho k q1
    have := x.here w (h.P x hx) k q2
    omega
  · rcases List.mem_append.1 ho with ho | ho
    · exact fun k hk => Nat.le_trans h.le (hf o ho k hk)
    · exact h.base o ho
theorem All.rowB {B : Nat} {w0 w : World} {l : List Ob} {e : TypeId} {sz n : Nat} {v : Value} {xs : List Value} (h : All B w0 l w) (hm : sl e sz v n xs ∈ l) : w.ownsRow B e sz v n xs := own_base' (show Own w e sz v n xs from h.P _ hm) (fun k hk => h.base _ hm k hk)
def ApC (W : World) (e : TypeId) (dv : Value) (n : Nat) (xs : List Value) (x : Value) : List Value → List Ob → World → Prop
  | [], Y, w' => Below W.heap.size W w' ∧ ∀ g cs ty, bk g cs ty ∈ Y → W.heap.size ≤ g ∧ Blk w' g cs ty
  | [v], _, w' => Chg (fun b => dv.ownBlock = some b) W w' ∧ Own w' e 1 v (n + 1) (xs ++ [x]) ∧ (v.ownBlock = dv.ownBlock ∨ ∀ b, v.ownBlock = some b → W.heap.size ≤ b)
  | _ :: _ :: _, _, _ => False
theorem ApC.alloc {W : World} {e : TypeId} {dv : Value} {n : Nat} {xs : List Value} {x : Value} (k : List Value) (Y : List Ob) (w' : World) (cs : List Value) (ty : TypeId) (h : ApC W e dv n xs x k Y w') : ApC W e dv n xs x k (bk w'.heap.size cs ty :: Y) (w'.alloc (.cells cs.toArray ty)) := by
  have hb : Below w'.heap.size w' (w'.alloc (.cells cs.toArray ty)) := (Below.refl _ _).alloc (Nat.le_refl _) _
  match k, h with
  | [], h =>
    refine ⟨bthen h.1 hb, fun g cs2 ty2 hm => ?_⟩
    rcases List.mem_cons.1 hm with e | hm
    · have hg := bk_inj e
      subst hg
      refine ⟨h.1.size, ?_⟩
      have : (bk w'.heap.size cs2 ty2).P (w'.alloc (.cells cs.toArray ty)) := by rw [e]; exact Blk.new w' cs ty
      exact this
    · exact ⟨(h.2 g cs2 ty2 hm).1, (h.2 g cs2 ty2 hm).2.below hb⟩
  | [v], h => exact ⟨h.1.trans (Chg.of_below hb) (fun _ _ e => e), own_belowM h.2.1 hb, h.2.2⟩
theorem ApC.perm {W : World} {e : TypeId} {dv : Value} {n : Nat} {xs : List Value} {x : Value} (k : List Value) (Y Z : List Ob) (w' : World) (hp : Y.Perm Z) (h : ApC W e dv n xs x k Y w') : ApC W e dv n xs x k Z w' := by
  match k, h with
  | [], h => exact ⟨h.1, fun g cs ty hm => h.2 g cs ty (hp.mem_iff.2 hm)⟩
  | [v], h => exact h
theorem ApC.keep {W : World} {e : TypeId} {dv : Value} {n : Nat} {xs : List Value} {x : Value} {k : List Value} {Y : List Ob} {w' : World} (h : ApC W e dv n xs x k Y w') {p : Addr} {u : Value} (hc : W.cell? p = some u) (hne : dv.ownBlock ≠ some p.block) : w'.cell? p = some u := by
  match k, h with
  | [], h => exact cell_keep h.1 hc
  | [v], h =>
    have := h.1.block p.block (World.block_lt_of_cell? _ _ hc) hne
    unfold World.cell? at hc ⊢
    simp only [this]
    exact hc
theorem ap1 {P : Program} {W w' : World} {t ty e : TypeId} {bytes : Nat} (hT : ET P t e 1 bytes) (hby : bytes ≤ 1000) {dv : Value} {n : Nat} {xs : List Value} {x : Value} (hd : Own W e 1 dv n xs) (hn : n ≤ 1000000) {Y : List Ob} {g : Nat} (h : ApC W e dv n xs x [] Y w') (hg : bk g [x] e ∈ Y) (hx : x.oneCell' = true) :
    ∃ v w2, (Builtin.append_ #[t, t] ty #[dv, .slice (some ⟨g, 0, none⟩) 1 1]).run P w' = .ok v w2 ∧ (∃ a c, v = .slice a (n + 1) c) ∧ ApC W e dv n xs x [v] Y w2 := by
  obtain ⟨v, w2, r1, r2, r3, r4⟩ := run_append_O (ty := ty) hT (own_belowM hd h.1) (Nat.zero_le _) (own_at (n := 1) (size := 1) (h.2 g _ _ hg).2 rfl (by omega)) (by intro u hu; simp at hu; subst hu; exact hx) (by omega) hby
  refine ⟨v, w2, r1, own_shapeB r2, (Chg.of_below h.1).trans ((Chg.refl (fun b => dv.ownBlock = some b) w').grown r3 (fun k e _ => e)) (fun _ _ e => e), r2, ?_⟩
  rcases r4 with r4 | r4
  · exact .inl r4
  · exact .inr (fun b hb => by rw [r4] at hb; cases hb; exact h.1.size)
def MlS (C g t : Nat) (v2 x : Value) (w' : World) : Prop := w'.cell? ⟨C, 0, none⟩ = some v2 ∧ w'.cell? ⟨g, t, none⟩ = some x
section
variable {B R : Nat} {S : Tr} {sv fv : Value} {w : World} {K : Nat → List Nat} {d : Nat → Nat}
set_option maxRecDepth 100000 in
set_option maxHeartbeats 16000000 in
theorem mset_any (D : DcOk S K d) (h : TAt B R S sv fv w) {va vb : Value} {M : List (Int × Bool)} (hm : MkAt w va vb M) (hl : M.length ≤ 100000) (i : Nat) (n : Nd) (hi : S.at i = some n) (on : Bool) :
    Calls Tryz.prog 30 #[.agg #[va, vb], .pointer (some ⟨R, 0, none⟩), .int .i64 (S.hd i), .bool on] w fun e w' => ∃ va' vb', e = .returned (.agg #[va', vb']) ∧
      w'.ownsRow w.heap.size 3 1 va' (setM (gH S K d) (rdH S) M (S.hd i) on).length (mrN (setM (gH S K d) (rdH S) M (S.hd i) on)) ∧ w'.ownsRow w.heap.size 4 1 vb' (setM (gH S K d) (rdH S) M (S.hd i) on).length (mrB (setM (gH S K d) (rdH S) M (S.hd i) on)) ∧ Below w.heap.size w w' := by
  obtain ⟨aa, ac, rfl⟩ := own_shapeB hm.nodes
  obtain ⟨ba, bc, rfl⟩ := own_shapeB hm.on
  have hgh := gH_hd D hi
  have hrd := rdH_hd D hi
  have hty := tyN_radio (D.nm i n hi)
  have HKi := Lib.hid (fun (wx : World) (hb : Below w.heap.size w wx) => skindL_any (h.below hb) D.lk i n hi (D.al i n hi))
  have HGr := Lib.hid (fun (wx : World) (hb : Below w.heap.size w wx) => sgroup_any D (h.below hb) i n hi)
  have hgl := grp_len D i n
  obtain ⟨kk, hkk⟩ : ∃ kk, setM (gH S K d) (rdH S) M (S.hd i) on = kk := ⟨_, rfl⟩
  rw [hkk]
  unfold setM at hkk
  rw [hgh, hrd, ← hty] at hkk
  generalize grp S K d i n = gl at *
  generalize tyN n = ty at *
  generalize hhd : S.hd i = hd at *
  have HKK := Lib.hid hkk
  have hA1 := (All.start w).newBkA w.heap.size rfl [.slice aa M.length ac, .slice ba M.length bc] 65
  have hA2 := hA1.newBkA (w.heap.size + 1) (by simp) [.slice none 0 0, .slice none 0 0] 65
  have hm2 := hm.below (hA2.below)
  have HM2 := Lib.hid hm2
  have HA2 := Lib.hid hA2
  have kq : Blk _ w.heap.size [.slice aa M.length ac, .slice ba M.length bc] 65 := hA2.tail.head
  have q0 := kq.cell 0
  have q1 := kq.cell 1
  simp only [List.getElem?_cons_succ, List.getElem?_cons_zero] at q0 q1
  clear h hm hi hgh hrd hkk hA1 hA2 hm2 kq hhd
  generalize hml : M.length = ml at *
  have HMl := Lib.hid hml
  clear hml
  go_enter Tryz.func30, Tryz.ntmps30
  go_upto_region 1 with fail
  generalize hw2 : (w.alloc (.cells #[.slice aa ml ac, .slice ba ml bc] 65)).alloc (.cells #[.slice none 0 0, .slice none 0 0] 65) = w2 at *
  clear hw2
  go_cut [9] (fun cv wx => ∃ C v2 v4, cv = .pointer (some ⟨C, 0, none⟩) ∧ All w.heap.size w (bk C [v2, v4] 65 :: sl 3 1 v2 (M ++ [(hd, on)]).length (mrN (M ++ [(hd, on)])) :: sl 4 1 v4 (M ++ [(hd, on)]).length (mrB (M ++ [(hd, on)])) :: [bk (w.heap.size + 1) [.slice none 0 0, .slice none 0 0] 65, bk w.heap.size [.slice aa ml ac, .slice ba ml bc] 65]) wx)
  case first =>
    have hS1 : ∀ k Y wx, MsC w2 M hd on k Y wx → MsS w.heap.size (.slice aa ml ac) (.slice ba ml bc) wx := fun k Y wx hC => ⟨cell_keep hC.b q0, cell_keep hC.b q1⟩
    have y0 : ∀ x1 : InS (MsS w.heap.size (.slice aa ml ac) (.slice ba ml bc)), x1.w.cell? ⟨w.heap.size, 0, none⟩ = some (.slice aa ml ac) := fun x1 => x1.h.1
    have y1 : ∀ x1 : InS (MsS w.heap.size (.slice aa ml ac) (.slice ba ml bc)), x1.w.cell? ⟨w.heap.size, 1, none⟩ = some (.slice ba ml bc) := fun x1 => x1.h.2
    have hne : Nonempty (InS (MsS w.heap.size (.slice aa ml ac) (.slice ba ml bc))) := ⟨⟨w2, q0, q1⟩⟩
    have hl6 : M.length ≤ 1000000 := by rw [HMl.out]; omega
    clear q0 q1
    refine RY.reg_m ⟨MsS w.heap.size (.slice aa ml ac) (.slice ba ml bc), MsC w2 M hd on, fun _ v => ∃ a n c, v = .slice a n c, msMade, msCs hd on, msTy⟩ 16 (by kernel_rfl) (by kernel_rfl) hS1 MsC.alloc MsC.perm ⟨(Below.refl _ _).drew, trivial, fun g cs ty hx => by cases hx⟩ ?_
    simp only [List.take_succ_cons, List.take_zero, List.drop_succ_cons, List.drop_zero]
    refine RY.m_made (fun g => .slice (some ⟨g, 0, none⟩) 0 0) [] 3 rfl rfl rfl (by rfl) (by rfl) (fun w => by go_simp) ?_
    intro g12
    simp only [Act.put, List.setIfInBounds_toArray, List.set_cons_zero, List.set_cons_succ]
    repeat (first
      | (refine RY.m_held (by rfl) (by rfl) (fun K hK => ?_); go_big_quiet_step (fail); refine wpQuiet_nil ?_; refine hK.out _ ?_; clear hK K)
      | (refine RY.m_skip (by rfl) ?_; simp only [Act.put, List.setIfInBounds_toArray, List.set_cons_zero, List.set_cons_succ]))
    refine RY.m_appX (by rfl) (by rfl) ⟨_, none, 0, 0, rfl⟩ (fun Y wx hY hx => ?_) (fun v hv => ?_)
    · obtain ⟨v', w', r1, r2, r3⟩ := ms1 (g := g12) hx HM2.out (hY _ (by simp)) hl6
      exact ⟨v', w', exec_append rfl rfl rfl r1, r2, r3⟩
    obtain ⟨a1, n1, c1, rfl⟩ := hv
    simp only [Act.put, List.setIfInBounds_toArray, List.set_cons_zero, List.set_cons_succ]
    repeat (first
      | (refine RY.m_held (by rfl) (by rfl) (fun K hK => ?_); go_big_quiet_step (fail); refine wpQuiet_nil ?_; refine hK.out _ ?_; clear hK K)
      | (refine RY.m_skip (by rfl) ?_; simp only [Act.put, List.setIfInBounds_toArray, List.set_cons_zero, List.set_cons_succ]))
    refine RY.m_made (fun g => .slice (some ⟨g, 0, none⟩) 1 1) [.int .i64 hd] 3 rfl rfl rfl (by rfl) (by rfl) (fun w => by go_simp) ?_
    intro g17
    simp only [Act.put, List.setIfInBounds_toArray, List.set_cons_zero, List.set_cons_succ]
    refine RY.m_appX (by rfl) (by rfl) ⟨_, none, 0, 0, rfl⟩ (fun Y wx hY hx => ?_) (fun v hv => ?_)
    · obtain ⟨v', w', r1, r2, r3⟩ := ms2 (g := g17) hx (hY _ (by simp)) hl6
      exact ⟨v', w', exec_append rfl rfl rfl r1, r2, r3⟩
    obtain ⟨a2, n2, c2, rfl⟩ := hv
    simp only [Act.put, List.setIfInBounds_toArray, List.set_cons_zero, List.set_cons_succ]
    refine RY.m_made (fun g => .slice (some ⟨g, 0, none⟩) 0 0) [] 4 rfl rfl rfl (by rfl) (by rfl) (fun w => by go_simp) ?_
    intro g19
    simp only [Act.put, List.setIfInBounds_toArray, List.set_cons_zero, List.set_cons_succ]
    repeat (first
      | (refine RY.m_held (by rfl) (by rfl) (fun K hK => ?_); go_big_quiet_step (fail); refine wpQuiet_nil ?_; refine hK.out _ ?_; clear hK K)
      | (refine RY.m_skip (by rfl) ?_; simp only [Act.put, List.setIfInBounds_toArray, List.set_cons_zero, List.set_cons_succ]))
    refine RY.m_appX (by rfl) (by rfl) ⟨_, none, 0, 0, rfl⟩ (fun Y wx hY hx => ?_) (fun v hv => ?_)
    · obtain ⟨v', w', r1, r2, r3⟩ := ms3 (g := g19) hx HM2.out (hY _ (by simp)) hl6
      exact ⟨v', w', exec_append rfl rfl rfl r1, r2, r3⟩
    obtain ⟨a3, n3, c3, rfl⟩ := hv
    simp only [Act.put, List.setIfInBounds_toArray, List.set_cons_zero, List.set_cons_succ]
    repeat (first
      | (refine RY.m_held (by rfl) (by rfl) (fun K hK => ?_); go_big_quiet_step (fail); refine wpQuiet_nil ?_; refine hK.out _ ?_; clear hK K)
      | (refine RY.m_skip (by rfl) ?_; simp only [Act.put, List.setIfInBounds_toArray, List.set_cons_zero, List.set_cons_succ]))
    refine RY.m_made (fun g => .slice (some ⟨g, 0, none⟩) 1 1) [.bool on] 4 rfl rfl rfl (by rfl) (by rfl) (fun w => by go_simp) ?_
    intro g24
    simp only [Act.put, List.setIfInBounds_toArray, List.set_cons_zero, List.set_cons_succ]
    refine RY.m_appX (by rfl) (by rfl) ⟨_, none, 0, 0, rfl⟩ (fun Y wx hY hx => ?_) (fun v hv => ?_)
    · obtain ⟨v', w', r1, r2, r3⟩ := ms4 (g := g24) hx (hY _ (by simp)) hl6
      exact ⟨v', w', exec_append rfl rfl rfl r1, r2, r3⟩
    obtain ⟨a4, n4, c4, rfl⟩ := hv
    simp only [Act.put, List.setIfInBounds_toArray, List.set_cons_zero, List.set_cons_succ]
    repeat (first
      | (refine RY.m_held (by rfl) (by rfl) (fun K hK => ?_); go_big_quiet_step (fail); refine wpQuiet_nil ?_; refine hK.out _ ?_; clear hK K)
      | (refine RY.m_skip (by rfl) ?_; simp only [Act.put, List.setIfInBounds_toArray, List.set_cons_zero, List.set_cons_succ]))
    refine RY.m_made (fun g => .pointer (some ⟨g, 0, none⟩)) [.slice none 0 0, .slice none 0 0] 65 rfl rfl rfl (by rfl) (by rfl) (fun w => by go_simp) ?_
    intro C
    simp only [Act.put, List.setIfInBounds_toArray, List.set_cons_zero, List.set_cons_succ]
    refine RY.m_nil ?_
    intro w6 hC6
    obtain ⟨hr2, hr4⟩ := hC6.r
    obtain ⟨hC1, hC2, hC3⟩ := hC6.y C [.slice none 0 0, .slice none 0 0] 65 (by simp)
    obtain ⟨hkC, _⟩ := hC3 (by simp [MsO])
    have el : (M ++ [(hd, on)]).length = M.length + 1 := by simp
    have hA6 := HA2.out.newL hC6.b (L := [bk C [.slice none 0 0, .slice none 0 0] 65, sl 3 1 (.slice a2 n2 c2) (M ++ [(hd, on)]).length (mrN (M ++ [(hd, on)])), sl 4 1 (.slice a4 n4 c4) (M ++ [(hd, on)]).length (mrB (M ++ [(hd, on)]))]) (fun o ho => by
      simp only [List.mem_cons, List.not_mem_nil, or_false] at ho
      rcases ho with rfl | rfl | rfl
      · exact hkC
      · rw [el]; exact own_low hr2 (Nat.zero_le _)
      · rw [el]; exact own_low hr4 (Nat.zero_le _)) (fun o ho => by
      simp only [List.mem_cons, List.not_mem_nil, or_false] at ho
      rcases ho with rfl | rfl | rfl
      · exact fun k hk => by rw [show k = C from hk]; exact hC1
      · exact fun k hk => (hr2.lt k hk).1
      · exact fun k hk => (hr4.lt k hk).1) (by
      have key : ∀ (e : TypeId) (n : Nat) (v : Value) (xs : List Value) (k : Nat), w6.ownsRow w2.heap.size e 1 v n xs → v.ownBlock = some k → e ≠ 65 → k ≠ C := fun e n v xs k ho hk he q => by
        obtain ⟨cur, hc⟩ := own_ty ho hk
        exact blk_ne hc hkC he q
      simp only [List.pairwise_cons, List.mem_cons, List.not_mem_nil, or_false, List.Pairwise.nil, and_true, forall_eq_or_imp, forall_eq, false_implies, implies_true]
      refine ⟨⟨fun k h1 h2 => key _ _ _ _ k hr2 h2 (by decide) h1, fun k h1 h2 => key _ _ _ _ k hr4 h2 (by decide) h1⟩, fun k h1 h2 => ?_⟩
      obtain ⟨c1', q1⟩ := own_ty hr2 h1
      obtain ⟨c2', q2⟩ := own_ty hr4 h2
      exact blk_ne q1 q2 (by decide) rfl)
    have hA7 := All.setBk [] hA6 0 (.slice a2 n2 c2)
    have hA8 := All.setBk [] hA7 1 (.slice a4 n4 c4)
    have HA8 := Lib.hid hA8
    have s0 := hkC.cell 0
    have s1 := hkC.cell 1
    have f0 := hkC.free 0
    have f1 := hkC.free 1
    simp only [List.getElem?_cons_succ, List.getElem?_cons_zero] at s0 s1
    clear hC6 hr2 hr4 hC1 hC2 hC3 hkC hA6 hA7 hA8 y0 y1 hne hS1 el
    go_wp2_with fail
    go_meet
    exact ⟨C, _, _, rfl, HA8.out⟩
  case rest =>
  obtain ⟨C, v2, v4, rfl, hA⟩ := hcut
  have HA := Lib.hid hA
  have HK1 := Lib.hid (HKi.out _ hA.below)
  clear hA HA2 HM2 q0 q1 HKi
  go_wp2_with fail
  refine HK1.out.mono ?_
  rintro e w3 ⟨rfl, hb3⟩
  have hA3 := HA.out.still hb3
  have HA3 := Lib.hid hA3
  clear hb3 HA HK1
  obtain ⟨a2, c2, rfl⟩ := own_shapeB (show Own w3 3 1 v2 _ _ from hA3.tail.head)
  obtain ⟨a4, c4, rfl⟩ := own_shapeB (show Own w3 4 1 v4 _ _ from hA3.tail.tail.head)
  have kC : Blk w3 C _ 65 := hA3.head
  have kR : Blk w3 (w.heap.size + 1) [.slice none 0 0, .slice none 0 0] 65 := hA3.tail.tail.tail.head
  have c0 := kC.cell 0
  have c1 := kC.cell 1
  have r0 := kR.cell 0
  have r1 := kR.cell 1
  have g0 := kR.free 0
  have g1 := kR.free 1
  simp only [List.getElem?_cons_succ, List.getElem?_cons_zero] at c0 c1 r0 r1
  clear hA3 kC kR
  have hel : (M ++ [(hd, on)]).length = M.length + 1 := by simp
  have HEl := Lib.hid hel
  clear hel
  by_cases hrad : (ty == sRadio) = true ∧ on = true
  · obtain ⟨hr, rfl⟩ := hrad
    have e1 : (ty == [114, 97, 100, 105, 111]) = true := hr
    have e2 : (ty != [114, 97, 100, 105, 111]) = false := by rw [bne, e1]; rfl
    have hkn := HKK.out
    rw [if_pos ⟨hr, rfl⟩] at hkn
    have HKn := Lib.hid hkn
    have HG3 := Lib.hid (HGr.out _ HA3.out.below)
    clear hr hkn HKK HGr
    go_wp2_with fail
    refine HG3.out.mono ?_
    rintro e w4 ⟨gv, rfl, hgv, hb4⟩
    obtain ⟨ga, gc, rfl⟩ := own_shapeB hgv
    have hA4 := HA3.out.new (o := sl 3 1 (.slice ga gl.length gc) gl.length (hdC S gl)) (own_low hgv (Nat.zero_le _)) hb4 (fun k hk => (hgv.lt k hk).1)
    have HA4 := Lib.hid hA4
    clear hgv hb4 hA4 HG3 HA3 c0 c1 r0 r1 g0 g1
    go_wp2_with fail
    go_loopw [41] (fun iv wr => ∃ (t : Nat) (v2 v4 : Value) (M1 : List (Int × Bool)), t ≤ gl.length ∧ iv = .int .i64 (t : Int) ∧ M1 = (M ++ [(hd, true)]) ++ ((((gl.take t).map S.hd).filter (fun x => x != hd)).map (fun a => (a, false))) ∧ M1.length ≤ ml + 1 + t ∧ All w.heap.size w (sl 3 1 (.slice ga gl.length gc) gl.length (hdC S gl) :: bk C [v2, v4] 65 :: sl 3 1 v2 M1.length (mrN M1) :: sl 4 1 v4 M1.length (mrB M1) :: [bk (w.heap.size + 1) [.slice none 0 0, .slice none 0 0] 65, bk w.heap.size [.slice aa ml ac, .slice ba ml bc] 65]) wr) (fun iv _ => gl.length - (intOf iv).toNat)
    case atStart => exact ⟨0, _, _, _, by omega, rfl, by simp, by rw [HEl.out, HMl.out]; omega, HA4.out⟩
    case round =>
      obtain ⟨t, v2, v4, M1, ht, rfl, hM1, hml, hA⟩ := hrel
      have HM1 := Lib.hid hM1
      have HA := Lib.hid hA
      have kC : Blk wr C [v2, v4] 65 := hA.tail.head
      have c0 := kC.cell 0
      have c1 := kC.cell 1
      have f0 := kC.free 0
      have f1 := kC.free 1
      simp only [List.getElem?_cons_succ, List.getElem?_cons_zero] at c0 c1
      have ho2 : Own wr 3 1 v2 M1.length (mrN M1) := hA.tail.tail.head
      have ho4 : Own wr 4 1 v4 M1.length (mrB M1) := hA.tail.tail.tail.head
      obtain ⟨a2, c2, rfl⟩ := own_shapeB ho2
      obtain ⟨a4, c4, rfl⟩ := own_shapeB ho4
      clear hM1
      by_cases htl : t < gl.length
      · obtain ⟨k, hk⟩ : ∃ k, gl[t]? = some k := ⟨_, List.getElem?_eq_getElem htl⟩
        obtain ⟨vg, e, _, hvc, ck⟩ := hdC_get (B := 0) (show Own wr 3 1 (.slice ga gl.length gc) gl.length (hdC S gl) from hA.head) hk
        subst e
        have htk : gl.take (t + 1) = gl.take t ++ [k] := by rw [List.take_add_one, hk]; rfl
        have hfs := filter_snoc (fun x => x != hd) ((gl.take t).map S.hd) (S.hd k)
        rw [show (gl.take t).map S.hd ++ [S.hd k] = (gl.take (t + 1)).map S.hd by rw [htk, List.map_append]; rfl] at hfs
        have HFs := Lib.hid hfs
        have hne2 : (Value.slice a2 M1.length c2).ownBlock ≠ some C := fun e => by
          obtain ⟨cur, hc⟩ := own_ty ho2 e
          exact blk_ne hc kC (by decide) rfl
        have hne3 : (Value.slice a2 M1.length c2).ownBlock ≠ some vg := fun e => by
          have ap := hA.apart
          rw [List.pairwise_cons] at ap
          exact ap.1 (sl 3 1 (.slice a2 M1.length c2) M1.length (mrN M1)) (by simp) vg rfl e
        have HNe := Lib.hid (And.intro hne2 hne3)
        generalize hhk : S.hd k = hk' at *
        clear hk htk hfs hA kC hne2 hne3 hhk
        by_cases hx : hk' = hd
        · have e0 : (hk' != hd) = false := by simpa using hx
          have HS := Lib.hid (show ((gl.take (t + 1)).map S.hd).filter (fun x => x != hd) = ((gl.take t).map S.hd).filter (fun x => x != hd) from by rw [HFs.out, e0]; rfl)
          clear hx ho2 ho4
          go_wp2_with fail
          go_roundw
          case rel => exact ⟨t + 1, _, _, M1, by omega, by go_num, by rw [HS.out]; exact HM1.out, by omega, HA.out⟩
          case measure => simp [intOf]; omega
        · have e0 : (hk' != hd) = true := by simpa using hx
          have HS := Lib.hid (show ((gl.take (t + 1)).map S.hd).filter (fun x => x != hd) = ((gl.take t).map S.hd).filter (fun x => x != hd) ++ [hk'] from by rw [HFs.out, e0]; rfl)
          clear hx
          go_upto_region 9 with fail
          go_cut [] (fun wx => ∃ a2' c2', All w.heap.size w (sl 3 1 (.slice (some ⟨vg, 0, none⟩) gl.length gc) gl.length (hdC S gl) :: bk C [.slice a2' (M1.length + 1) c2', .slice a4 M1.length c4] 65 :: sl 3 1 (.slice a2' (M1.length + 1) c2') (M1.length + 1) (mrN M1 ++ [.int .i64 hk']) :: sl 4 1 (.slice a4 M1.length c4) M1.length (mrB M1) :: [bk (w.heap.size + 1) [.slice none 0 0, .slice none 0 0] 65, bk w.heap.size [.slice aa ml ac, .slice ba ml bc] 65]) wx)
          case first =>
            have hS1 : ∀ k Y wx, ApC wr 3 (.slice a2 M1.length c2) M1.length (mrN M1) (.int .i64 hk') k Y wx → MlS C vg t (.slice a2 M1.length c2) (.int .i64 hk') wx := fun k Y wx hC => ⟨hC.keep c0 HNe.out.1, hC.keep ck HNe.out.2⟩
            have y0 : ∀ x1 : InS (MlS C vg t (.slice a2 M1.length c2) (.int .i64 hk')), x1.w.cell? ⟨C, 0, none⟩ = some (.slice a2 M1.length c2) := fun x1 => x1.h.1
            have y1 : ∀ x1 : InS (MlS C vg t (.slice a2 M1.length c2) (.int .i64 hk')), x1.w.cell? ⟨vg, t, none⟩ = some (.int .i64 hk') := fun x1 => x1.h.2
            have hne : Nonempty (InS (MlS C vg t (.slice a2 M1.length c2) (.int .i64 hk'))) := ⟨⟨wr, c0, ck⟩⟩
            have Ho2 := Lib.hid ho2
            clear c0 ck ho2 ho4
            refine RY.reg_m ⟨MlS C vg t (.slice a2 M1.length c2) (.int .i64 hk'), ApC wr 3 (.slice a2 M1.length c2) M1.length (mrN M1) (.int .i64 hk'), fun _ v => ∃ a c, v = .slice a (M1.length + 1) c, fun _ g => .slice (some ⟨g, 0, none⟩) 1 1, fun _ => [.int .i64 hk'], fun _ => 3⟩ 9 (by kernel_rfl) (by kernel_rfl) hS1 ApC.alloc ApC.perm ⟨(Below.refl _ _).drew, fun g cs ty hx => by cases hx⟩ ?_
            simp only [List.take_succ_cons, List.take_zero, List.drop_succ_cons, List.drop_zero]
            repeat (first
              | (refine RY.m_held (by rfl) (by rfl) (fun K hK => ?_); go_big_quiet_step (fail); refine wpQuiet_nil ?_; refine hK.out _ ?_; clear hK K)
              | (refine RY.m_skip (by rfl) ?_; simp only [Act.put, List.setIfInBounds_toArray, List.set_cons_zero, List.set_cons_succ]))
            refine RY.m_made (fun g => .slice (some ⟨g, 0, none⟩) 1 1) [.int .i64 hk'] 3 rfl rfl rfl (by rfl) (by rfl) (fun w => by go_simp) ?_
            intro g56
            simp only [Act.put, List.setIfInBounds_toArray, List.set_cons_zero, List.set_cons_succ]
            refine RY.m_appX (by rfl) (by rfl) ⟨_, none, 0, rfl⟩ (fun Y wx hY hx => ?_) (fun v hv => ?_)
            · obtain ⟨v', w', r1, r2, r3⟩ := ap1 (x := Value.int .i64 hk') etI (by omega) Ho2.out (by omega) hx (g := g56) (hY _ (by simp)) rfl
              exact ⟨v', w', exec_append rfl rfl rfl r1, r2, r3⟩
            obtain ⟨a5, c5, rfl⟩ := hv
            simp only [Act.put, List.setIfInBounds_toArray, List.set_cons_zero, List.set_cons_succ]
            repeat (first
              | (refine RY.m_held (by rfl) (by rfl) (fun K hK => ?_); go_big_quiet_step (fail); refine wpQuiet_nil ?_; refine hK.out _ ?_; clear hK K)
              | (refine RY.m_skip (by rfl) ?_; simp only [Act.put, List.setIfInBounds_toArray, List.set_cons_zero, List.set_cons_succ]))
            refine RY.m_nil ?_
            intro w6 hC6
            obtain ⟨q1, q2, q3⟩ := hC6
            have hA6 := HA.out.step [sl 3 1 (.slice (some ⟨vg, 0, none⟩) gl.length gc) gl.length (hdC S gl), bk C [.slice a2 M1.length c2, .slice a4 M1.length c4] 65] (o' := sl 3 1 (.slice a5 (M1.length + 1) c5) (M1.length + 1) (mrN M1 ++ [Value.int .i64 hk'])) q2 q1 (fun k hk => by
              rcases q3 with q3 | q3
              · exact .inl (q3.symm.trans hk)
              · exact .inr (q3 k hk))
            have hkC : Blk w6 C _ 65 := hA6.tail.head
            have hA7 := All.setBk [sl 3 1 (.slice (some ⟨vg, 0, none⟩) gl.length gc) gl.length (hdC S gl)] hA6 0 (.slice a5 (M1.length + 1) c5)
            have HA7 := Lib.hid hA7
            have s0 := hkC.cell 0
            have f0 := hkC.free 0
            simp only [List.getElem?_cons_succ, List.getElem?_cons_zero] at s0
            clear q1 q2 q3 hA6 hA7 hkC y0 y1 hne hS1
            go_wp2_with fail
            go_meet
            exact ⟨a5, c5, HA7.out⟩
          case rest =>
          obtain ⟨a5, c5, hA5⟩ := hcut
          have kC : Blk wc C _ 65 := hA5.tail.head
          have c1 := kC.cell 1
          have f1 := kC.free 1
          simp only [List.getElem?_cons_succ, List.getElem?_cons_zero] at c1
          have hA6 := hA5.alloc (.cells #[.bool false] 4)
          have HA6 := Lib.hid hA6
          have HWx := Lib.hid (own_at (n := 1) (size := 1) (Blk.new wc [.bool false] 4) rfl (by omega))
          clear hA5 hA6 c0 ck kC ho2 ho4
          go_wp2_with (at_builtin; refine wpList_append_all etBo [sl 3 1 (.slice (some ⟨vg, 0, none⟩) gl.length gc) gl.length (hdC S gl), bk C [.slice a5 (M1.length + 1) c5, .slice a4 M1.length c4] 65, sl 3 1 (.slice a5 (M1.length + 1) c5) (M1.length + 1) (mrN M1 ++ [.int .i64 hk'])] HA6.out HWx.out (by intro u hu; simp at hu; subst hu; rfl) (by omega) (by omega) rfl _ _ rfl rfl rfl ?_)
          intro v' w7 hA7
          have kC : Blk w7 C _ 65 := hA7.tail.head
          have d1 := kC.cell 1
          have e1 := kC.free 1
          simp only [List.getElem?_cons_succ, List.getElem?_cons_zero] at d1
          have hA8 := All.setBk [sl 3 1 (.slice (some ⟨vg, 0, none⟩) gl.length gc) gl.length (hdC S gl)] hA7 1 v'
          obtain ⟨a7, c7, rfl⟩ := own_shapeB (show Own w7 4 1 v' _ _ from hA7.tail.tail.tail.head)
          have HA8 := Lib.hid hA8
          clear hA7 hA8 kC c1 f1
          go_wp2_with fail
          go_roundw
          case rel =>
            refine ⟨t + 1, .slice a5 (M1.length + 1) c5, .slice a7 (M1.length + 1) c7, M1 ++ [(hk', false)], by omega, by go_num, ?_, by rw [List.length_append]; simp; omega, ?_⟩
            · rw [HS.out, HM1.out, List.map_append, ← List.append_assoc]
              rfl
            · rw [mrN_snoc, mrB_snoc, show (M1 ++ [(hk', false)]).length = M1.length + 1 by simp]
              exact HA8.out
          case measure => simp [intOf]; omega
      · obtain rfl : t = gl.length := by omega
        rw [List.take_length] at HM1
        have HE := Lib.hid (HM1.out.trans HKn.out)
        have kR : Blk wr (w.heap.size + 1) [.slice none 0 0, .slice none 0 0] 65 := hA.tail.tail.tail.tail.head
        have r0 := kR.cell 0
        have r1 := kR.cell 1
        have g0 := kR.free 0
        have g1 := kR.free 1
        simp only [List.getElem?_cons_succ, List.getElem?_cons_zero] at r0 r1
        have hA7 := All.setBk [sl 3 1 (.slice ga gl.length gc) gl.length (hdC S gl), bk C [.slice a2 M1.length c2, .slice a4 M1.length c4] 65, sl 3 1 (.slice a2 M1.length c2) M1.length (mrN M1), sl 4 1 (.slice a4 M1.length c4) M1.length (mrB M1)] hA 0 (.slice a2 M1.length c2)
        have hA8 := All.setBk [sl 3 1 (.slice ga gl.length gc) gl.length (hdC S gl), bk C [.slice a2 M1.length c2, .slice a4 M1.length c4] 65, sl 3 1 (.slice a2 M1.length c2) M1.length (mrN M1), sl 4 1 (.slice a4 M1.length c4) M1.length (mrB M1)] hA7 1 (.slice a4 M1.length c4)
        have HA8 := Lib.hid hA8
        clear hA hA7 hA8 kC kR ho2 ho4
        go_wp2_with fail
        refine bodyPost_ret (res_mk (by rfl) (by rfl) (show Blk _ _ _ _ from HA8.out.tail.tail.tail.tail.head)) rfl ?_
        refine ⟨_, _, rfl, ?_, ?_, HA8.out.below⟩
        · rw [← HE.out]
          exact HA8.out.rowB (by simp)
        · rw [← HE.out]
          exact HA8.out.rowB (by simp)
  · have HKn := Lib.hid (show M ++ [(hd, on)] = kk from by rw [← HKK.out, if_neg hrad, List.append_nil])
    have hA7 := All.setBk [bk C [.slice a2 (M ++ [(hd, on)]).length c2, .slice a4 (M ++ [(hd, on)]).length c4] 65, sl 3 1 (.slice a2 (M ++ [(hd, on)]).length c2) (M ++ [(hd, on)]).length (mrN (M ++ [(hd, on)])), sl 4 1 (.slice a4 (M ++ [(hd, on)]).length c4) (M ++ [(hd, on)]).length (mrB (M ++ [(hd, on)]))] HA3.out 0 (.slice a2 (M ++ [(hd, on)]).length c2)
    have hA8 := All.setBk [bk C [.slice a2 (M ++ [(hd, on)]).length c2, .slice a4 (M ++ [(hd, on)]).length c4] 65, sl 3 1 (.slice a2 (M ++ [(hd, on)]).length c2) (M ++ [(hd, on)]).length (mrN (M ++ [(hd, on)])), sl 4 1 (.slice a4 (M ++ [(hd, on)]).length c4) (M ++ [(hd, on)]).length (mrB (M ++ [(hd, on)]))] hA7 1 (.slice a4 (M ++ [(hd, on)]).length c4)
    have HA8 := Lib.hid hA8
    have hfin : ∀ wz, wz = (w3.setCell ⟨w.heap.size + 1, 0, none⟩ (.slice a2 (M ++ [(hd, on)]).length c2)).setCell ⟨w.heap.size + 1, 1, none⟩ (.slice a4 (M ++ [(hd, on)]).length c4) → wz.ownsRow w.heap.size 3 1 (.slice a2 (M ++ [(hd, on)]).length c2) kk.length (mrN kk) ∧ wz.ownsRow w.heap.size 4 1 (.slice a4 (M ++ [(hd, on)]).length c4) kk.length (mrB kk) ∧ Below w.heap.size w wz := by
      rintro wz rfl
      refine ⟨?_, ?_, HA8.out.below⟩
      · rw [← HKn.out]
        exact HA8.out.rowB (by simp)
      · rw [← HKn.out]
        exact HA8.out.rowB (by simp)
    have HFin := Lib.hid hfin
    have HRes := Lib.hid (show Blk _ _ _ _ from HA8.out.tail.tail.tail.head)
    clear hA7 hA8 hfin HKK
    generalize (M ++ [(hd, on)]).length = nn at *
    by_cases hr : (ty == sRadio) = true
    · obtain rfl : on = false := by
        cases on with
        | false => rfl
        | true => exact absurd ⟨hr, rfl⟩ hrad
      have e1 : (ty == [114, 97, 100, 105, 111]) = true := hr
      have e2 : (ty != [114, 97, 100, 105, 111]) = false := by rw [bne, e1]; rfl
      clear hr hrad
      go_wp2_with fail
      refine bodyPost_ret (res_mk (by rfl) (by rfl) HRes.out) rfl ?_
      exact ⟨_, _, rfl, HFin.out _ rfl⟩
    · rw [Bool.not_eq_true] at hr
      have e1 : (ty == [114, 97, 100, 105, 111]) = false := hr
      have e2 : (ty != [114, 97, 100, 105, 111]) = true := by rw [bne, e1]; rfl
      clear hr hrad
      go_wp2_with fail
      refine bodyPost_ret (res_mk (by rfl) (by rfl) HRes.out) rfl ?_
      exact ⟨_, _, rfl, HFin.out _ rfl⟩
end
end Go.Proofs.YtacdbnhnhdlmpaaGreatDoor.W
end
section
namespace Go.Proofs.YtacdbnhnhdlmpaaGreatDoor.W
open Go.RowKit
section
variable {S : Tr} {K : Nat → List Nat} {d : Nat → Nat}
theorem gH_len (D : DcOk S K d) (h : Int) : (gH S K d h).length ≤ 100 := by
  unfold gH
  split
  · rw [List.length_map]; exact grp_len D _ _
  · simp
theorem setX_len (D : DcOk S K d) (X : List FX) (h : Int) (on : Bool) : (setX (gH S K d) (rdH S) X h on).length ≤ X.length + 101 := by
  have h1 := touX_len X h on
  unfold setX
  split
  · have h2 := touL_len (touX X h on) ((gH S K d h).filter (fun x => x != h))
    have h3 := List.length_filter_le (fun x => x != h) (gH S K d h)
    have h4 := gH_len D h
    omega
  · omega
theorem setM_len (D : DcOk S K d) (M : List (Int × Bool)) (h : Int) (on : Bool) : (setM (gH S K d) (rdH S) M h on).length ≤ M.length + 101 := by
  unfold setM
  have h3 := List.length_filter_le (fun x => x != h) (gH S K d h)
  have h4 := gH_len D h
  rw [List.length_append, List.length_append, List.length_singleton]
  split
  · rw [List.length_map]; omega
  · simp
structure MkOk (S : Tr) (K : Nat → List Nat) (d : Nat → Nat) (X : List FX) (M : List (Int × Bool)) : Prop where
  eq : uX X = lastM M
  one : OneT (gH S K d) (rdH S) (uX X)
  nod : NoD X
theorem MkOk.start : MkOk S K d [] [] := ⟨rfl, fun a b _ _ _ h => (by cases h.1), fun x hx => (by cases hx)⟩
theorem MkOk.set (D : DcOk S K d) {X : List FX} {M : List (Int × Bool)} (h : MkOk S K d X M) (x : Int) (on : Bool) : MkOk S K d (setX (gH S K d) (rdH S) X x on) (setM (gH S K d) (rdH S) M x on) := by
  have e : uX (setX (gH S K d) (rdH S) X x on) = setU (gH S K d) (rdH S) (uX X) x on := funext fun y => setX_u _ _ _ _ _ _
  refine ⟨?_, ?_, h.nod.setX x on⟩
  · rw [e, h.eq]
    exact funext fun y => (setM_last _ _ _ _ _ _).symm
  · rw [e]
    exact h.one.set (gr_ok D) x on
end
def rdL (Z R : Nat) (S : Tr) (sv fv va vb lv : Value) (L : List Nat) (M : List (Int × Bool)) : List Ob := [bk Z [va, vb] 65, sl 3 1 va M.length (mrN M), sl 4 1 vb M.length (mrB M), trO R S sv fv, sl 3 1 lv L.length (hdC S L)]
section
variable {B Q Z R : Nat} {S : Tr} {sv fv va vb lv fa : Value} {L : List Nat} {M : List (Int × Bool)} {X : List FX} {foc : Int} {w0 w : World}
theorem rd_tr : trO R S sv fv ∈ rdL Z R S sv fv va vb lv L M := by simp [rdL]
theorem rd_mk (h : All B w0 (fsL Q fa foc X ++ rdL Z R S sv fv va vb lv L M) w) : MkAt w va vb M :=
  ⟨h.P (sl 3 1 va M.length (mrN M)) (by simp [rdL]), h.P (sl 4 1 vb M.length (mrB M)) (by simp [rdL])⟩
theorem rd_bk (h : All B w0 (fsL Q fa foc X ++ rdL Z R S sv fv va vb lv L M) w) : Blk w Z [va, vb] 65 := h.P (bk Z [va, vb] 65) (by simp [rdL])
theorem rd_row (h : All B w0 (fsL Q fa foc X ++ rdL Z R S sv fv va vb lv L M) w) : Own w 3 1 lv L.length (hdC S L) := h.P (sl 3 1 lv L.length (hdC S L)) (by simp [rdL])
theorem rd_tree (h : All B w0 (fsL Q fa foc X ++ rdL Z R S sv fv va vb lv L M) w) : TAt 0 R S sv fv w := h.P (trO R S sv fv) (by simp [rdL])
end
end Go.Proofs.YtacdbnhnhdlmpaaGreatDoor.W
end
section
namespace Go.Proofs.YtacdbnhnhdlmpaaGreatDoor.W
open Go.RowKit
section
variable {B Q Z R : Nat} {S : Tr} {sv fv lv : Value} {L : List Nat} {w0 w : World}
theorem rd_start (h : All B w0 [bk Z [.slice none 0 0, .slice none 0 0] 65, bk Q [.slice none 0 0, .int .i64 0] 30, trO R S sv fv, sl 3 1 lv L.length (hdC S L)] w) :
    All B w0 (fsL Q (.slice none 0 0) 0 [] ++ rdL Z R S sv fv (.slice none 0 0) (.slice none 0 0) lv L []) w := by
  have h1 := ((h.nil 4 1).nil 3 1).nil 119 9
  have hp : ∀ (F n b Zb Qb : Ob) (r : List Ob), (F :: n :: b :: Zb :: Qb :: r).Perm (Qb :: F :: Zb :: n :: b :: r) := fun F n b Zb Qb r => by
    have e1 : (F :: n :: b :: Zb :: Qb :: r) = [F, n, b, Zb] ++ Qb :: r := rfl
    rw [e1]
    refine List.perm_middle.trans ((List.Perm.cons _ ((?_ : (n :: b :: Zb :: r).Perm (Zb :: n :: b :: r)).cons F)))
    exact List.perm_middle (l₁ := [n, b])
  exact h1.perm (hp _ _ _ _ _ _)
end
end Go.Proofs.YtacdbnhnhdlmpaaGreatDoor.W
end
section
namespace Go.Proofs.YtacdbnhnhdlmpaaGreatDoor.W
open Go.RowKit
def actV (k h f : Int) : Value := .agg #[.int .i64 k, .int .i64 h, .int .i64 f]
theorem res_ac {fn : Func} {j : Nat} (h : fn.results = #[.cell j 91]) {tmps : Array Value} {w : World} {r : Nat} {k h0 f : Int} (hp : tmps.getD j undef = .pointer (some ⟨r, 0, none⟩)) (hk : Blk w r [.int .i64 k, .int .i64 h0, .int .i64 f] 91) :
    (results fn tmps).run Tryz.prog w = .ok (actV k h0 f) w := by
  have c0 := hk.cell 0
  have c1 := hk.cell 1
  have c2 := hk.cell 2
  simp only [List.getElem?_cons_succ, List.getElem?_cons_zero] at c0 c1 c2
  rw [Array.getD_eq_getD_getElem?] at hp
  simp [results, h, hp, go_sem, actV, c0, c1, c2]
end Go.Proofs.YtacdbnhnhdlmpaaGreatDoor.W
end
