/- Texts joined: Fre Fec Fam Whole Formed RegI Iter ValP. -/
import Derived.Test.YtacdbnhnhdlmpaaGreatDoorFE30
import Derived.Deep.RegionLaw
import Derived.Test.YtacdbnhnhdlmpaaGreatDoorFE24
import Derived.Test.YtacdbnhnhdlmpaaGreatDoorFE25
import Derived.Test.YtacdbnhnhdlmpaaGreatDoorFE29
import Derived.Test.YtacdbnhnhdlmpaaGreatDoorFE9
import Derived.BigQuiet
import Derived.Test.YtacdbnhnhdlmpaaGreatDoorFE13
import Derived.Test.YtacdbnhnhdlmpaaGreatDoorFE6
import Derived.OrdersIn
import Derived.TacticsIn
import Derived.RangeFuncNested
import Derived.RangeFuncBound
import Derived.RangeFuncCalls
import Derived.RangeFuncLeaves
import Derived.Shelf.Abstract
import Derived.Shelf.RegionOpen
import Derived.WalkKit
import Derived.OwnWalkIn
import Derived.TacticsInMore
import Derived.LoopNIn
import Derived.LoopIn
set_option maxRecDepth 100000
set_option maxHeartbeats 40000000
set_option linter.unusedVariables false
set_option linter.unusedSimpArgs false
section
namespace Go.Proofs.YtacdbnhnhdlmpaaGreatDoor.W
open Go.RowKit
section
variable {B : Nat} {w0 w : World} {Q R N : Nat} {foc hd : Int} {l : List Ob} {O : Ob} {k : Nat} {v : List UInt8} {F : FT}
set_option maxRecDepth 100000 in
set_option maxHeartbeats 16000000 in
theorem redo_one (h : FsAt B w0 Q foc hd v l F w) (hO : O ∈ l) (hF : FdOk B w0 R O hd k v) (hk : k = 1 ∨ k = 2) (hL : ∀ wx, Below B w0 wx → Laid wx) (hok : FOk N F) (hN : N ≤ 900000) (us : List FE) (x : FE) (hu : F.redo = us ++ [x])
    (hxa : x.at_ + nL x.old ≤ nL F.val) (hxn : x.new.length ≤ 1000000) (hxo : x.old.length ≤ 1000000) :
    Calls Tryz.prog 22 #[.pointer (some ⟨Q, 0, none⟩), .pointer (some ⟨R, 0, none⟩), .int .i64 hd] w fun e w' => e = .returned (.tuple #[.bool true, .int .i64 0]) ∧ FsAt B w0 Q foc hd v l F.forth w' := by
  have hn := hok.n
  have hfew := hok.few
  have hnl := nL_le F.val
  have hbk : F.forth = ⟨cutL F.val 0 x.at_ ++ (x.new ++ cutL F.val (x.at_ + nL x.old) (nL F.val)), x.at_ + nL x.new, x.at_ + nL x.new, F.undo ++ [x], us⟩ := by
    unfold FT.forth
    rw [hu, List.getLast?_concat, List.dropLast_concat]
  have HBk := Lib.hid hbk
  have HK := Lib.hid (hF.kindA hO h.rest)
  have HW := Lib.hid (written_yes hk)
  have HFd := Lib.hid (fun wx (hb : Below w.heap.size w wx) => find_one (h.still hb))
  have HLw := Lib.hid (fun wx (hb : Below B w0 wx) => hL wx hb)
  have hpre : sliceF F.val 0 (x.at_ : Int) = cutL F.val 0 x.at_ := slice_cut hok.vd (Nat.zero_le _) (by omega)
  have hpost : sliceF F.val ((x.at_ : Int) + (nL x.old : Int)) (nL F.val : Int) = cutL F.val (x.at_ + nL x.old) (nL F.val) := by
    have := slice_cut hok.vd (a := x.at_ + nL x.old) (b := nL F.val) (by omega) (Nat.le_refl _)
    rwa [Int.natCast_add] at this
  have hul : F.redo.length = us.length + 1 := by rw [hu]; simp
  have hux : F.redo[us.length]? = some x := by rw [hu]; simp
  clear h hF hO hbk hL
  go_enter Tryz.func22, Tryz.ntmps22
  go_wp2_with fail
  refine HK.out.mono ?_
  rintro e w1 ⟨rfl, hb1⟩
  go_wp2_with fail
  refine (HW.out _).mono ?_
  rintro e w2 ⟨rfl, hw⟩
  subst hw
  go_wp2_with fail
  refine (HFd.out _ hb1).mono ?_
  rintro e w2 ⟨rfl, ⟨_, e1, _⟩ | ⟨g, ua, uc, ra, rc, rfl, c7, c8, hall⟩⟩
  · rw [e1] at hul; simp at hul
  obtain ⟨cap, tc, ck, u, r, hA⟩ := hall (.inr (fun e => by rw [e] at hul; simp at hul))
  have f7 := one_cell hA (j := 7) (by omega)
  rw [show (fxC ⟨hd, true, tc, ck, F, u, r⟩)[7]? = some u from rfl, c7] at f7
  obtain rfl : u = .slice ua F.undo.length uc := (Option.some.inj f7.1).symm
  have f8 := one_cell hA (j := 8) (by omega)
  rw [show (fxC ⟨hd, true, tc, ck, F, .slice ua F.undo.length uc, r⟩)[8]? = some r from rfl, c8] at f8
  obtain rfl : r = .slice ra F.redo.length rc := (Option.some.inj f8.1).symm
  obtain ⟨ug, uo, uc', he, huc, hcl⟩ := Ro.at_ (show Ro w2 126 5 (.slice ra F.redo.length rc) F.redo.length (rows encE F.redo) from hA.P (ro 126 5 (.slice ra F.redo.length rc) F.redo.length (rows encE F.redo)) (by simp [edO])) (by omega)
  cases he
  have hp : ∀ j, j < 5 → w2.cell? ⟨ug, uo + us.length * 5 + j, none⟩ = (encE x)[j]? := fun j hj => by
    have := hcl (us.length * 5 + j) (by omega)
    rw [rows_at (enc := encE) encE_len _ _ _ hux j hj, ← Nat.add_assoc] at this
    exact this
  have p0 := hp 0 (by omega)
  have p1 := hp 1 (by omega)
  have p2 := hp 2 (by omega)
  have p3 := hp 3 (by omega)
  have p4 := hp 4 (by omega)
  simp only [encE, List.getElem?_cons_succ, List.getElem?_cons_zero, strV, Nat.add_zero] at p0 p1 p2 p3 p4
  rw [hul] at c8 huc
  have hlen : (((us.length : Int) + 1) == 0) = false := by simp; omega
  have HA := Lib.hid hA
  have hgl : g < w2.heap.size := own_lt (show Own w2 119 9 (.slice (some ⟨g, 0, none⟩) 1 cap) 1 _ from hA.tail.head) (k := g) rfl
  have hne : ¬ w2.heap.size = g := by omega
  have hul2 : us.length ≤ 100 := by omega
  clear hall hA hcl hp hb1 HK HW HFd
  have hB2 : All B w0 ((oneL Q g cap foc ⟨hd, true, tc, ck, F, (.slice ua F.undo.length uc), (.slice (some ⟨ug, uo, none⟩) F.redo.length rc)⟩ ++ [ro 126 5 (.slice ua F.undo.length uc) F.undo.length (rows encE F.undo)]) ++ ro 126 5 (.slice (some ⟨ug, uo, none⟩) F.redo.length rc) F.redo.length (rows encE F.redo) :: l) w2 := HA.out
  have hB3 := All.roCut _ hB2 (m := us.length) (by omega)
  rw [rows_take encE_len, show F.redo.take us.length = us by rw [hu]; simp] at hB3
  have hB5 := one_set (y := ⟨hd, true, tc, ck, F, (.slice ua F.undo.length uc), (.slice (some ⟨ug, uo, none⟩) F.redo.length rc)⟩) (l := ro 126 5 (.slice ua F.undo.length uc) F.undo.length (rows encE F.undo) :: (ro 126 5 (.slice (some ⟨ug, uo, none⟩) us.length us.length) us.length (rows encE us) :: l)) hB3 ⟨hd, true, tc, ck, { F with redo := us }, (.slice ua F.undo.length uc), (.slice (some ⟨ug, uo, none⟩) us.length us.length)⟩ 8 (.slice (some ⟨ug, uo, none⟩) us.length us.length) rfl
  have hB6 := (hB5.newBkA w2.heap.size (by simp [World.setCell]) (encE x) 126).perm (List.perm_append_comm_assoc [_] [_, _, _, _] l)
  have hB4 : All B w0 (oneL Q g cap foc ⟨hd, true, tc, ck, { F with redo := us }, (.slice ua F.undo.length uc), (.slice (some ⟨ug, uo, none⟩) us.length us.length)⟩ ++ ro 126 5 (.slice ua F.undo.length uc) F.undo.length (rows encE F.undo) :: (ro 126 5 (.slice (some ⟨ug, uo, none⟩) us.length us.length) us.length (rows encE us) :: (bk w2.heap.size (encE x) 126 :: l))) ((w2.setCell ⟨g, 8, none⟩ (.slice (some ⟨ug, uo, none⟩) us.length us.length)).alloc (.cells #[.int .i64 (x.at_ : Int), .string ⟨x.old.toArray⟩, .string ⟨x.new.toArray⟩, .int .i64 (x.st : Int), .int .i64 (x.en : Int)] 126)) := hB6
  clear hB5 hB6
  have HB := Lib.hid hB4
  clear hB2 hB3 hB4 HA
  go_upto_region 9 with fail
  have HB' := Lib.hid HB.out
  clear HB
  generalize hgb : w2.heap.size = gb at *
  generalize (w2.setCell ⟨g, 8, none⟩ (.slice (some ⟨ug, uo, none⟩) us.length us.length)).alloc (.cells #[.int .i64 (x.at_ : Int), .string ⟨x.old.toArray⟩, .string ⟨x.new.toArray⟩, .int .i64 (x.st : Int), .int .i64 (x.en : Int)] 126) = w3 at *
  have hkb : Blk w3 gb (encE x) 126 := HB'.out.P (bk gb (encE x) 126) (by simp [oneL])
  have q0 := hkb.cell 0
  have q1 := hkb.cell 1
  have q2 := hkb.cell 2
  have q3 := hkb.cell 3
  have q4 := hkb.cell 4
  simp only [encE, List.getElem?_cons_succ, List.getElem?_cons_zero, strV] at q0 q1 q2 q3 q4
  have hgbl := hkb.lt
  obtain ⟨d7, g7⟩ := one_cell HB'.out (j := 7) (by omega)
  rw [show (fxC ⟨hd, true, tc, ck, { F with redo := us }, (.slice ua F.undo.length uc), (.slice (some ⟨ug, uo, none⟩) us.length us.length)⟩)[7]? = some (.slice ua F.undo.length uc) from rfl] at d7
  have hgl3 : g < w3.heap.size := own_lt (show Own w3 119 9 (.slice (some ⟨g, 0, none⟩) 1 cap) 1 _ from HB'.out.tail.head) (k := g) rfl
  have hrl : F.undo.length ≤ 100 := by omega
  have T1 := Lib.hid ((HB'.out.alloc (.cells (encE x).toArray 126)).drew)
  have T2 := Lib.hid (own_at (w := (w3.alloc (.cells (encE x).toArray 126)).drew) (g := w3.heap.size) (n := 1) (size := 5) (show Blk _ _ _ _ from Blk.new w3 (encE x) 126) rfl (by omega))
  have T3 := Lib.hid (encE_one x)
  have ea : ∀ o, (w3.alloc o).cell? ⟨g, 7, none⟩ = some (.slice ua F.undo.length uc) := fun o => (World.cell?_alloc_lt _ _ _ hgl3).trans d7
  clear c7 c8 f7 f8 p0 p1 p2 p3 p4 hkb hne hgl hgb
  go_cut [] (fun wx => ∃ va vc, All B w0 (oneL Q g cap foc ⟨hd, true, tc, ck, { F with undo := F.undo ++ [x], redo := us }, (.slice va (F.undo.length + 1) vc), (.slice (some ⟨ug, uo, none⟩) us.length us.length)⟩ ++ ro 126 5 (.slice va (F.undo.length + 1) vc) (F.undo.length + 1) (rows encE (F.undo ++ [x])) :: (ro 126 5 (.slice (some ⟨ug, uo, none⟩) us.length us.length) us.length (rows encE us) :: (bk gb (encE x) 126 :: l))) wx)
  case first =>
    go_region_law (refine step_append_roA etE (oneL Q g cap foc ⟨hd, true, tc, ck, { F with redo := us }, (.slice ua F.undo.length uc), (.slice (some ⟨ug, uo, none⟩) us.length us.length)⟩) T1.out T2.out (by omega) T3.out (by omega) (by omega) (by rfl) _ _ (by rfl) (by rfl) (by rfl) ?_; intro v' w5 hA5; obtain ⟨va, vc, rfl, _⟩ := (show Ro w5 126 5 v' (F.undo.length + 1) _ from hA5.mid).shape; have HA5 := Lib.hid hA5; obtain ⟨k7, f7⟩ := one_cell hA5 (j := 7) (by omega); rw [show (fxC ⟨hd, true, tc, ck, { F with redo := us }, (.slice ua F.undo.length uc), (.slice (some ⟨ug, uo, none⟩) us.length us.length)⟩)[7]? = some (.slice ua F.undo.length uc) from rfl] at k7; clear hA5)
    all_goals
      go_wp2_with fail
      go_meet
      refine ⟨va, vc, ?_⟩
      have h9 := HA5.out
      rw [← rows_snoc (enc := encE)] at h9
      exact one_set h9 ⟨hd, true, tc, ck, { F with undo := F.undo ++ [x], redo := us }, (.slice va (F.undo.length + 1) vc), (.slice (some ⟨ug, uo, none⟩) us.length us.length)⟩ 7 (.slice va (F.undo.length + 1) vc) rfl
  case rest =>
    go_upto_region 10 with fail
    obtain ⟨va, vc, hA⟩ := hcut
    clear HB' T1 T2 T3 ea q0 q1 q2 q3 q4 d7 g7
    have hkb : Blk wc gb (encE x) 126 := hA.P (bk gb (encE x) 126) (by simp [oneL])
    have hne := stb_ne wc
    have HA := Lib.hid hA
    have y2 := fun (z : InS (StB wc)) => (one_cell (HA.out.still z.h) (j := 2) (by omega)).1
    have b0 := fun (z : InS (StB wc)) => (hkb.below z.h).cell 0
    have b1 := fun (z : InS (StB wc)) => (hkb.below z.h).cell 1
    have b2 := fun (z : InS (StB wc)) => (hkb.below z.h).cell 2
    simp only [fxC, encE, strV, List.getElem?_cons_succ, List.getElem?_cons_zero] at y2 b0 b1 b2
    have HKb := Lib.hid hkb
    have HLa : ∀ wx, Below wc.heap.size wc wx → Laid wx := fun wx hb => HLw.out wx (HA.out.below.trans (hb.mono HA.out.le))
    have HSl := Lib.hid (fun (a b : Int) wx (hb : Below wc.heap.size wc wx) => slice_any F.val a b wx (by omega) (HLa wx hb))
    have HLe := Lib.hid (fun wx => len_n F.val wx (by omega))
    have HLn := Lib.hid (fun wx => len_n x.old wx (by omega))
    have HLw2 := Lib.hid (fun wx => len_n x.new wx (by omega))
    clear hA hkb HLa
    have hc1 := cut_len F.val 0 x.at_
    have hc2 := cut_len F.val (x.at_ + nL x.old) (nL F.val)
    generalize cutL F.val 0 x.at_ = pre at *
    generalize cutL F.val (x.at_ + nL x.old) (nL F.val) = post at *
    have hs1 : ¬ 9223372036854775807 < pre.length + x.new.length := by omega
    have hs2 : ¬ 9223372036854775807 < pre.length + x.new.length + post.length := by omega
    refine reg_f (fun _ _ => True) (fun k v => v = if k.length = 0 then .string ⟨pre.toArray⟩ else if k.length = 1 then .int .i64 (nL x.old : Int) else if k.length = 2 then .int .i64 (nL F.val : Int) else .string ⟨post.toArray⟩) 28 (by kernel_rfl) (by kernel_rfl) (fun _ _ _ _ _ => trivial) trivial ?_
    simp only [List.take_succ_cons, List.take_zero, List.drop_succ_cons, List.drop_zero]
    repeat (first
      | (refine RV.m_held (by rfl) (by rfl) (fun K hK => ?_); go_big_quiet_step (fail); refine wpQuiet_nil ?_; refine hK.out _ ?_; clear hK K)
      | (refine RV.m_skip (by rfl) ?_; simp only [Act.put, List.setIfInBounds_toArray, List.set_cons_zero, List.set_cons_succ]))
    refine RV.m_call (by rfl) (by rfl) (fun w => by go_simp; exact ⟨rfl, rfl⟩) (⟨_, rfl⟩) (fun X wx hx => ?_) (fun v hv => ?_)
    · refine (HSl.out _ _ _ hx.1).mono ?_
      rintro e wy ⟨rfl, hb⟩
      rw [hpre]
      exact ⟨_, rfl, by simp, bthen hx.1 hb, trivial⟩
    obtain rfl : v = .string ⟨pre.toArray⟩ := by simpa using hv
    clear hv
    simp only [Act.put, List.setIfInBounds_toArray, List.set_cons_zero, List.set_cons_succ]
    repeat (first
      | (refine RV.m_held (by rfl) (by rfl) (fun K hK => ?_); go_big_quiet_step (fail); refine wpQuiet_nil ?_; refine hK.out _ ?_; clear hK K)
      | (refine RV.m_skip (by rfl) ?_; simp only [Act.put, List.setIfInBounds_toArray, List.set_cons_zero, List.set_cons_succ]))
    refine RV.m_call (by rfl) (by rfl) (fun w => by go_simp; exact ⟨rfl, rfl⟩) (⟨_, rfl⟩) (fun X wx hx => ?_) (fun v hv => ?_)
    · refine (HLn.out _).mono ?_
      rintro e wy ⟨rfl, hb⟩
      exact ⟨_, rfl, by simp, bthen hx.1 hb, trivial⟩
    obtain rfl : v = .int .i64 (nL x.old : Int) := by simpa using hv
    clear hv
    simp only [Act.put, List.setIfInBounds_toArray, List.set_cons_zero, List.set_cons_succ]
    repeat (first
      | (refine RV.m_held (by rfl) (by rfl) (fun K hK => ?_); go_big_quiet_step (fail); refine wpQuiet_nil ?_; refine hK.out _ ?_; clear hK K)
      | (refine RV.m_skip (by rfl) ?_; simp only [Act.put, List.setIfInBounds_toArray, List.set_cons_zero, List.set_cons_succ]))
    refine RV.m_call (by rfl) (by rfl) (fun w => by go_simp; exact ⟨rfl, rfl⟩) (⟨_, rfl⟩) (fun X wx hx => ?_) (fun v hv => ?_)
    · refine (HLe.out _).mono ?_
      rintro e wy ⟨rfl, hb⟩
      exact ⟨_, rfl, by simp, bthen hx.1 hb, trivial⟩
    obtain rfl : v = .int .i64 (nL F.val : Int) := by simpa using hv
    clear hv
    simp only [Act.put, List.setIfInBounds_toArray, List.set_cons_zero, List.set_cons_succ]
    repeat (first
      | (refine RV.m_held (by rfl) (by rfl) (fun K hK => ?_); go_big_quiet_step (fail); refine wpQuiet_nil ?_; refine hK.out _ ?_; clear hK K)
      | (refine RV.m_skip (by rfl) ?_; simp only [Act.put, List.setIfInBounds_toArray, List.set_cons_zero, List.set_cons_succ]))
    refine RV.m_call (by rfl) (by rfl) (fun w => by go_simp; exact ⟨rfl, rfl⟩) (⟨_, rfl⟩) (fun X wx hx => ?_) (fun v hv => ?_)
    · refine (HSl.out _ _ _ hx.1).mono ?_
      rintro e wy ⟨rfl, hb⟩
      rw [hpost]
      exact ⟨_, rfl, by simp, bthen hx.1 hb, trivial⟩
    obtain rfl : v = .string ⟨post.toArray⟩ := by simpa using hv
    clear hv
    simp only [Act.put, List.setIfInBounds_toArray, List.set_cons_zero, List.set_cons_succ]
    repeat (first
      | (refine RV.m_held (by rfl) (by rfl) (fun K hK => ?_); go_big_quiet_step (fail); refine wpQuiet_nil ?_; refine hK.out _ ?_; clear hK K)
      | (refine RV.m_skip (by rfl) ?_; simp only [Act.put, List.setIfInBounds_toArray, List.set_cons_zero, List.set_cons_succ]))
    refine RV.m_nil ?_
    intro w5 hb5 _
    clear y2 b0 b1 b2 hne
    have hA5 := HA.out.still hb5
    have hk5 := HKb.out.below hb5
    obtain ⟨c2, f2⟩ := one_cell hA5 (j := 2) (by omega)
    have hA6 := one_set hA5 ⟨hd, true, tc, ck, ⟨pre ++ (x.new ++ post), F.st, F.en, F.undo ++ [x], us⟩, (.slice va (F.undo.length + 1) vc), (.slice (some ⟨ug, uo, none⟩) us.length us.length)⟩ 2 (.string (⟨pre.toArray⟩ ++ ⟨x.new.toArray⟩ ++ ⟨post.toArray⟩)) (by rw [bytes_app, bytes_app, List.append_assoc]; rfl)
    have hk6 : Blk (w5.setCell ⟨g, 2, none⟩ (.string (⟨pre.toArray⟩ ++ ⟨x.new.toArray⟩ ++ ⟨post.toArray⟩))) gb (encE x) 126 := hA6.P (bk gb (encE x) 126) (by simp [oneL])
    have HA6 := Lib.hid hA6
    have HK6 := Lib.hid hk6
    clear hA5 hA6 hb5 hk5 hk6
    go_upto_region 11 with fail
    generalize w5.setCell ⟨g, 2, none⟩ (.string (⟨pre.toArray⟩ ++ ⟨x.new.toArray⟩ ++ ⟨post.toArray⟩)) = w6 at *
    have hne := stb_ne w6
    have b0 := fun (z : InS (StB w6)) => (HK6.out.below z.h).cell 0
    have b2 := fun (z : InS (StB w6)) => (HK6.out.below z.h).cell 2
    simp only [encE, strV, List.getElem?_cons_succ, List.getElem?_cons_zero] at b0 b2
    have hnn := nL_le x.new
    have hat : x.at_ ≤ nL F.val := by omega
    refine reg_f (fun _ _ => True) (fun k v => v = .int .i64 (nL x.new : Int)) 7 (by kernel_rfl) (by kernel_rfl) (fun _ _ _ _ _ => trivial) trivial ?_
    simp only [List.take_succ_cons, List.take_zero, List.drop_succ_cons, List.drop_zero]
    repeat (first
      | (refine RV.m_held (by rfl) (by rfl) (fun K hK => ?_); go_big_quiet_step (fail); refine wpQuiet_nil ?_; refine hK.out _ ?_; clear hK K)
      | (refine RV.m_skip (by rfl) ?_; simp only [Act.put, List.setIfInBounds_toArray, List.set_cons_zero, List.set_cons_succ]))
    refine RV.m_call (by rfl) (by rfl) (fun w => by go_simp; exact ⟨rfl, rfl⟩) (⟨_, rfl⟩) (fun X wx hx => ?_) (fun v hv => ?_)
    · refine (HLw2.out _).mono ?_
      rintro e wy ⟨rfl, hb⟩
      exact ⟨_, rfl, rfl, bthen hx.1 hb, trivial⟩
    subst hv
    simp only [Act.put, List.setIfInBounds_toArray, List.set_cons_zero, List.set_cons_succ]
    repeat (first
      | (refine RV.m_held (by rfl) (by rfl) (fun K hK => ?_); go_big_quiet_step (fail); refine wpQuiet_nil ?_; refine hK.out _ ?_; clear hK K)
      | (refine RV.m_skip (by rfl) ?_; simp only [Act.put, List.setIfInBounds_toArray, List.set_cons_zero, List.set_cons_succ]))
    refine RV.m_nil ?_
    intro w7 hb7 _
    clear b0 b2 hne
    have hA7 := HA6.out.still hb7
    obtain ⟨c5, f5⟩ := one_cell hA7 (j := 5) (by omega)
    obtain ⟨c6, f6⟩ := one_cell hA7 (j := 6) (by omega)
    have hA8 := one_set hA7 ⟨hd, true, tc, ck, ⟨pre ++ (x.new ++ post), x.at_ + nL x.new, F.en, F.undo ++ [x], us⟩, (.slice va (F.undo.length + 1) vc), (.slice (some ⟨ug, uo, none⟩) us.length us.length)⟩ 5 (.int .i64 ((x.at_ : Int) + (nL x.new : Int))) (by simp only [fxC, List.set_cons_succ, List.set_cons_zero, Int.natCast_add])
    have hA9 := one_set hA8 ⟨hd, true, tc, ck, ⟨pre ++ (x.new ++ post), x.at_ + nL x.new, x.at_ + nL x.new, F.undo ++ [x], us⟩, (.slice va (F.undo.length + 1) vc), (.slice (some ⟨ug, uo, none⟩) us.length us.length)⟩ 6 (.int .i64 ((x.at_ : Int) + (nL x.new : Int))) (by simp only [fxC, List.set_cons_succ, List.set_cons_zero, Int.natCast_add])
    have hAA := All.sub (l' := oneL Q g cap foc ⟨hd, true, tc, ck, ⟨pre ++ (x.new ++ post), x.at_ + nL x.new, x.at_ + nL x.new, F.undo ++ [x], us⟩, (.slice va (F.undo.length + 1) vc), (.slice (some ⟨ug, uo, none⟩) us.length us.length)⟩ ++ ro 126 5 (.slice va (F.undo.length + 1) vc) (F.undo.length + 1) (rows encE (F.undo ++ [x])) :: ro 126 5 (.slice (some ⟨ug, uo, none⟩) us.length us.length) us.length (rows encE us) :: l) hA9 ((List.Sublist.refl _).append (((List.sublist_cons_self _ _).cons_cons _).cons_cons _))
    have HA9 := Lib.hid hAA
    clear hA7 hA8 hA9 hAA hb7
    go_wp2_with fail
    go_ret2
    refine ⟨rfl, ?_⟩
    rw [HBk.out]
    refine FsAt.of (u := (.slice va (F.undo.length + 1) vc)) (r := (.slice (some ⟨ug, uo, none⟩) us.length us.length)) (tc := tc) (ck := ck) (g := g) (cap := cap) ?_
    have hLn : (F.undo ++ [x]).length = F.undo.length + 1 := by simp
    show All B w0 (oneL Q g cap foc _ ++ ro 126 5 (.slice va (F.undo.length + 1) vc) (F.undo ++ [x]).length (rows encE (F.undo ++ [x])) :: ro 126 5 (.slice (some ⟨ug, uo, none⟩) us.length us.length) us.length (rows encE us) :: l) _
    rw [hLn]
    exact HA9.out
end
section
variable {B : Nat} {w0 w : World} {Q Z R k : Nat} {ar : Bool} {foc hd : Int} {v : List UInt8} {l : List Ob} {O : Ob} {F F0 : FT} {E : RE} {L : List (Value × List (Mo × Mo))} {N : Nat}
/-! ### the editor -/
theorem fe_rins (h : FeAt B w0 Q Z ar foc hd v l F E L w) (hag : Ag N F0 E) (hN : N ≤ 100000) (x : List UInt8) (hx : x.length ≤ 10000) :
    Calls Tryz.prog 67 #[.pointer (some ⟨Z, 0, none⟩), .string ⟨x.toArray⟩] w fun e w' => e = .returned (.tuple #[]) ∧ ∃ L', L ⊆ L' ∧ FeAt B w0 Q Z ar foc hd v l F (E.ins (cleanL ar x)) L' w' := by
  obtain ⟨l1, h1, hb⟩ := h.ed
  have e1 := hag.val
  have e2 := hag.st
  have e3 := hag.en
  have hul := hag.und.len
  have hfw := hag.few
  refine (rinsert_any h1 x hx (by rw [e2, e3]; exact hag.le) (by rw [e3, e1]; exact hag.in_) (e1 ▸ hag.vd) (by rw [e1]; have := hag.n; omega) (by omega)).mono ?_
  rintro e w' ⟨he, L', hs, hE⟩
  exact ⟨he, L', hs, hb _ _ _ hE⟩
theorem fe_rdel (h : FeAt B w0 Q Z ar foc hd v l F E L w) (hag : Ag N F0 E) (hN : N ≤ 100000) (fw : Bool) :
    Calls Tryz.prog 69 #[.pointer (some ⟨Z, 0, none⟩), .bool fw] w fun e w' => e = .returned (.tuple #[]) ∧ ∃ L', L ⊆ L' ∧ FeAt B w0 Q Z ar foc hd v l F (E.del fw) L' w' := by
  obtain ⟨l1, h1, hb⟩ := h.ed
  have e1 := hag.val
  have e2 := hag.st
  have e3 := hag.en
  have hul := hag.und.len
  have hfw := hag.few
  refine (rdelete_any h1 fw (by rw [e2, e3]; exact hag.le) (by rw [e3, e1]; exact hag.in_) (e1 ▸ hag.vd) (by rw [e1]; have := hag.n; omega) (by omega)).mono ?_
  rintro e w' ⟨he, L', hs, hE⟩
  exact ⟨he, L', hs, hb _ _ _ hE⟩
theorem fe_rsel (h : FeAt B w0 Q Z ar foc hd v l F E L w) (hag : Ag N F0 E) (hN : N ≤ 100000) (a b : Int) :
    Calls Tryz.prog 68 #[.pointer (some ⟨Z, 0, none⟩), .int .i64 a, .int .i64 b] w fun e w' => e = .returned (.tuple #[]) ∧ FeAt B w0 Q Z ar foc hd v l F (E.sel a b) L w' := by
  obtain ⟨l1, h1, hb⟩ := h.ed
  have e1 := hag.val
  refine (rselect_any h1 (e1 ▸ hag.vd) (by rw [e1]; have := hag.n; omega) a b).mono ?_
  rintro e w' ⟨he, hE⟩
  exact ⟨he, hb _ _ _ hE⟩
theorem fe_rset (h : FeAt B w0 Q Z ar foc hd v l F E L w) (x : List UInt8) (hx : x.length ≤ 10000) :
    Calls Tryz.prog 72 #[.pointer (some ⟨Z, 0, none⟩), .string ⟨x.toArray⟩] w fun e w' => e = .returned (.tuple #[]) ∧ ∃ L', L ⊆ L' ∧ FeAt B w0 Q Z ar foc hd v l F (E.set (cleanL ar x)) L' w' := by
  obtain ⟨l1, h1, hb⟩ := h.ed
  refine (rset_any h1 x hx).mono ?_
  rintro e w' ⟨he, hE⟩
  exact ⟨he, _, fun p hp => List.mem_cons_of_mem _ hp, hb _ _ _ hE⟩
theorem fe_rback (h : FeAt B w0 Q Z ar foc hd v l F E L w) (hag : Ag N F0 E) :
    Calls Tryz.prog 70 #[.pointer (some ⟨Z, 0, none⟩)] w fun e w' => e = .returned (.bool (decide (F0.undo ≠ []))) ∧ ∃ L', L ⊆ L' ∧ FeAt B w0 Q Z ar foc hd v l F E.back L' w' := by
  obtain ⟨l1, h1, hb⟩ := h.ed
  have hiff := hag.back.2
  have hul := hag.und.len
  have hrl := hag.red.len
  have hfw := hag.few
  by_cases hu : E.undo = []
  · rw [show decide (F0.undo ≠ []) = false by simpa using hiff.2 hu]
    refine (back_none h1 hu).mono ?_
    rintro e w' ⟨he, rfl⟩
    have hE : E.back = E := by unfold RE.back; rw [hu]; rfl
    rw [hE]
    exact ⟨he, L, fun _ h => h, h⟩
  · rw [show decide (F0.undo ≠ []) = true by simpa using fun e => hu (hiff.1 e)]
    have hsn := List.dropLast_concat_getLast hu
    have hdl : E.undo.dropLast.length = E.undo.length - 1 := by simp
    refine (back_some h1 _ _ hsn.symm (by omega) (by omega)).mono ?_
    rintro e w' ⟨he, L', hs, hE⟩
    exact ⟨he, L', hs, hb _ _ _ hE⟩
theorem fe_rforth (h : FeAt B w0 Q Z ar foc hd v l F E L w) (hag : Ag N F0 E) :
    Calls Tryz.prog 71 #[.pointer (some ⟨Z, 0, none⟩)] w fun e w' => e = .returned (.bool (decide (F0.redo ≠ []))) ∧ ∃ L', L ⊆ L' ∧ FeAt B w0 Q Z ar foc hd v l F E.forth L' w' := by
  obtain ⟨l1, h1, hb⟩ := h.ed
  have hiff := hag.forth.2
  have hul := hag.und.len
  have hrl := hag.red.len
  have hfw := hag.few
  by_cases hu : E.redo = []
  · rw [show decide (F0.redo ≠ []) = false by simpa using hiff.2 hu]
    refine (forth_none h1 hu).mono ?_
    rintro e w' ⟨he, rfl⟩
    have hE : E.forth = E := by unfold RE.forth; rw [hu]; rfl
    rw [hE]
    exact ⟨he, L, fun _ h => h, h⟩
  · rw [show decide (F0.redo ≠ []) = true by simpa using fun e => hu (hiff.1 e)]
    have hsn := List.dropLast_concat_getLast hu
    have hdl : E.redo.dropLast.length = E.redo.length - 1 := by simp
    refine (forth_some h1 _ _ hsn.symm (by omega) (by omega)).mono ?_
    rintro e w' ⟨he, L', hs, hE⟩
    exact ⟨he, L', hs, hb _ _ _ hE⟩
/-! ### the field -/
theorem fe_ins (h : FeAt B w0 Q Z ar foc hd v l F E L w) (hO : O ∈ l) (hF : FdOk B w0 R O hd k v) (hk : k = 1 ∨ k = 2) (hka : decide (k = 2) = ar) (hv : v.length ≤ 10000000) (hL : ∀ wx, Below B w0 wx → Laid wx) {E0 : RE} (hag : Ag N F E0) (hN : N ≤ 100000) (x : List UInt8) (hx : x.length ≤ 10000) :
    Calls Tryz.prog 17 #[.pointer (some ⟨Q, 0, none⟩), .pointer (some ⟨R, 0, none⟩), .int .i64 hd, .string ⟨x.toArray⟩] w fun e w' => e = .returned (.int .i64 0) ∧ FeAt B w0 Q Z ar foc hd v l (F.ins (cleanL ar x)) E L w' := by
  obtain ⟨l1, hm, h1, hb⟩ := h.fs
  refine (insert_one h1 (hm _ hO) hF hk hv hL hag.ok (by omega) x hx).mono ?_
  rw [hka]
  rintro e w' ⟨he, hE⟩
  exact ⟨he, hb _ _ hE⟩
theorem fe_set (h : FeAt B w0 Q Z ar foc hd v l F E L w) (hO : O ∈ l) (hF : FdOk B w0 R O hd k v) (hk : k = 1 ∨ k = 2) (hka : decide (k = 2) = ar) (hv : v.length ≤ 10000000) (hL : ∀ wx, Below B w0 wx → Laid wx) (x : List UInt8) (hx : x.length ≤ 10000) :
    Calls Tryz.prog 37 #[.pointer (some ⟨Q, 0, none⟩), .pointer (some ⟨R, 0, none⟩), .int .i64 hd, .string ⟨x.toArray⟩] w fun e w' => e = .returned (.int .i64 0) ∧ FeAt B w0 Q Z ar foc hd v l (F.set (cleanL ar x)) E L w' := by
  obtain ⟨l1, hm, h1, hb⟩ := h.fs
  refine (setValue_one h1 (hm _ hO) hF hk hv hL x hx).mono ?_
  rw [hka]
  rintro e w' ⟨he, hE⟩
  exact ⟨he, hb _ _ hE⟩
theorem fe_del (h : FeAt B w0 Q Z ar foc hd v l F E L w) (hO : O ∈ l) (hF : FdOk B w0 R O hd k v) (hk : k = 1 ∨ k = 2) (hv : v.length ≤ 10000000) (hL : ∀ wx, Below B w0 wx → Laid wx) {E0 : RE} (hag : Ag N F E0) (hN : N ≤ 100000) (fw : Bool) :
    Calls Tryz.prog 20 #[.pointer (some ⟨Q, 0, none⟩), .pointer (some ⟨R, 0, none⟩), .int .i64 hd, .bool fw] w fun e w' => e = .returned (.int .i64 0) ∧ FeAt B w0 Q Z ar foc hd v l (F.del fw) E L w' := by
  obtain ⟨l1, hm, h1, hb⟩ := h.fs
  refine (delete_one h1 (hm _ hO) hF hk hv hL hag.ok (by omega) fw).mono ?_
  rintro e w' ⟨he, hE⟩
  exact ⟨he, hb _ _ hE⟩
theorem fe_sel (h : FeAt B w0 Q Z ar foc hd v l F E L w) (hO : O ∈ l) (hF : FdOk B w0 R O hd k v) (hk : k = 1 ∨ k = 2) (hv : v.length ≤ 10000000) (hn : F.val.length ≤ 10000000) (a b : Int) :
    Calls Tryz.prog 19 #[.pointer (some ⟨Q, 0, none⟩), .pointer (some ⟨R, 0, none⟩), .int .i64 hd, .int .i64 a, .int .i64 b] w fun e w' => e = .returned (.int .i64 0) ∧ FeAt B w0 Q Z ar foc hd v l (F.sel a b) E L w' := by
  obtain ⟨l1, hm, h1, hb⟩ := h.fs
  refine (select_one h1 (hm _ hO) hF hk hv hn a b).mono ?_
  rintro e w' ⟨he, hE⟩
  exact ⟨he, hb _ _ hE⟩
theorem fe_undo (h : FeAt B w0 Q Z ar foc hd v l F E L w) (hO : O ∈ l) (hF : FdOk B w0 R O hd k v) (hk : k = 1 ∨ k = 2) (hL : ∀ wx, Below B w0 wx → Laid wx) {E0 : RE} (hag : Ag N F E0) (hN : N ≤ 100000) :
    Calls Tryz.prog 21 #[.pointer (some ⟨Q, 0, none⟩), .pointer (some ⟨R, 0, none⟩), .int .i64 hd] w fun e w' => e = .returned (.tuple #[.bool (decide (F.undo ≠ [])), .int .i64 0]) ∧ FeAt B w0 Q Z ar foc hd v l F.back E L w' := by
  obtain ⟨l1, hm, h1, hb⟩ := h.fs
  by_cases hu : F.undo = []
  · rw [show decide (F.undo ≠ []) = false by simpa using hu]
    refine (undo_no h1 (hm _ hO) hF hk hu).mono ?_
    rintro e w' ⟨he, hbw⟩
    have hE : F.back = F := by unfold FT.back; rw [hu]; rfl
    rw [hE]
    exact ⟨he, h.still hbw⟩
  · rw [show decide (F.undo ≠ []) = true by simpa using hu]
    obtain ⟨us, x, e1, e2, e3, e4⟩ := hag.undo_ok hu
    refine (undo_one h1 (hm _ hO) hF hk hL hag.ok (by omega) us x e1 e2 (by omega) (by omega)).mono ?_
    rintro e w' ⟨he, hE⟩
    exact ⟨he, hb _ _ hE⟩
theorem fe_redo (h : FeAt B w0 Q Z ar foc hd v l F E L w) (hO : O ∈ l) (hF : FdOk B w0 R O hd k v) (hk : k = 1 ∨ k = 2) (hL : ∀ wx, Below B w0 wx → Laid wx) {E0 : RE} (hag : Ag N F E0) (hN : N ≤ 100000) :
    Calls Tryz.prog 22 #[.pointer (some ⟨Q, 0, none⟩), .pointer (some ⟨R, 0, none⟩), .int .i64 hd] w fun e w' => e = .returned (.tuple #[.bool (decide (F.redo ≠ [])), .int .i64 0]) ∧ FeAt B w0 Q Z ar foc hd v l F.forth E L w' := by
  obtain ⟨l1, hm, h1, hb⟩ := h.fs
  by_cases hu : F.redo = []
  · rw [show decide (F.redo ≠ []) = false by simpa using hu]
    refine (redo_no h1 (hm _ hO) hF hk hu).mono ?_
    rintro e w' ⟨he, hbw⟩
    have hE : F.forth = F := by unfold FT.forth; rw [hu]; rfl
    rw [hE]
    exact ⟨he, h.still hbw⟩
  · rw [show decide (F.redo ≠ []) = true by simpa using hu]
    obtain ⟨us, x, e1, e2, e3, e4⟩ := hag.redo_ok hu
    refine (redo_one h1 (hm _ hO) hF hk hL hag.ok (by omega) us x e1 e2 (by omega) (by omega)).mono ?_
    rintro e w' ⟨he, hE⟩
    exact ⟨he, hb _ _ hE⟩
end



end Go.Proofs.YtacdbnhnhdlmpaaGreatDoor.W
end
section
namespace Go.Proofs.YtacdbnhnhdlmpaaGreatDoor.W
open Go
end Go.Proofs.YtacdbnhnhdlmpaaGreatDoor.W
end
section
namespace Go.Proofs.YtacdbnhnhdlmpaaGreatDoor.W
open Go.RowKit
attribute [local go_sem] Oper.semAt_some
theorem grown_of_below {W w : World} (h : Below W.heap.size W w) : W.grownBy w none := ⟨h.os, h.tape, h.output, h.size, fun k hk _ => h.block k hk⟩
theorem keeps_below {W W' : World} (h : Below W.heap.size W W') : KeepsOthers W W' := ⟨h.size, fun k o hk _ => (h.block k (Array.getElem?_eq_some_iff.1 hk).1).trans hk⟩
theorem rangeFunc_put {α : Type} {P : Program} {n : Nat} {g : Operand} {ps : Array Tmp} {assign body : Code} {Q : Exit → Act → World → Prop} {a : Act} {w : World} (upd : α → Act → Act)
    (h1 : 1 ≤ n) {gf : Nat} {lb : Array Value} (hg : a.eval g = .func (.func gf) #[] lb) (eg : ∀ args w, (callFunc gf args).run P w = .ok (.enter gf args) w)
    {encs : α → Array Value} {Kp : World → World → Prop} {S Sp : List α → Prop} {N : Nat} (hseq : SeqStopsK Fence.wide (n - 1) P gf lb encs Kp S Sp N w)
    (hKt : ∀ {A B C : World}, Kp A B → Kp B C → Kp A C) (hKb : ∀ (W : World) (l : Nat) (o o' : Obj), w.heap.size ≤ l → W.heap[l]? = some o → o.isCells = false → o.isWalk = false → Kp W (W.putObj l o')) (hps : ∀ x, (encs x).size = ps.size)
    (I : List α → World → Prop) (Ix : Code → List α → World → Prop) (hI : OwnFrom w.heap.size I) (hIx : ∀ c, OwnFrom w.heap.size (Ix c)) (h0 : I [] w)
    (hassign : ∀ (l : Nat) (x : α) (W : World) (K : Act → World → Prop), K (upd x a) W →
      assign.wpIn (Fence.wide.inRound l) (n - 1 - 1) P (Exit.then K (fun _ _ _ => False)) { tmps := (ps.zip (encs x)).foldl (fun t (p, v) => t.setIfInBounds p v) a.tmps, defers := [] } W)
    (hbody : ∀ (l : Nat) (pre : List α) (x : α) (W : World), I pre W → pre.length < N → body.wpIn (Fence.wide.inRound l) (n - 1 - 1) P (ownPostK Kp I Ix (pre ++ [x]) W) (upd x a) W)
    (hdone : ∀ (D : Nat) (xs : List α) (W : World), w.heap.size ≤ D → S xs → I xs W → W.heap[D]? = some (.deferred (some [])) → Q .normal { a with defers := { target := .collected D, args := #[] } :: a.defers } W)
    (hstop : ∀ (D : Nat) (c : Code) (pre : List α) (W : World), w.heap.size ≤ D → Sp pre → Ix c pre W → W.heap[D]? = some (.deferred (some [])) → c.wpIn Fence.wide n P Q { a with defers := { target := .collected D, args := #[] } :: a.defers } W) :
    (Code.rangeFunc g ps assign body).wpIn Fence.wide n P Q a w :=
  wpIn_rangeFunc_ownF rfl h1 hg trivial eg hseq hKt hKb (Below.refl _ _) hps I Ix hI hIx h0 (fun x => upd x a) hassign hbody hdone hstop
theorem blk_own {B gn : Nat} {cs : List Value} {t : TypeId} {X Y : World} {row : Option Nat} (h : Blk X gn cs t) (hg : X.grownBy Y row) (hr : ∀ r, row = some r → B ≤ r ∧ ∃ o : Obj, X.heap[r]? = some o ∧ o.isCells = false) : Blk Y gn cs t :=
  h.kept (hg.block gn h.lt (fun e => by
    obtain ⟨_, o, ho, hc⟩ := hr gn e.symm
    have : X.heap[gn]? = _ := h
    rw [this] at ho
    cases ho
    cases hc))
theorem one_mark {n : Nat} {P : Program} {fn : Func} {tmps : Array Value} {R : Ending → World → Prop} {D1 : Nat} {W : World} (h1 : W.heap[D1]? = some (.deferred (some [])))
    (hL : LeavesIn Fence.wide n P fn tmps R [] .returning (W.putObj D1 (.deferred none))) :
    bodyPostM Fence.wide n P fn R .ret { tmps := tmps, defers := [{ target := .collected D1, args := #[] }] } W :=
  ⟨by simp, .inl ⟨D1, _, rfl, run_takeDeferred h1, hL⟩⟩
theorem below_put {B D : Nat} {w W : World} (o : Obj) (h : Below B w W) (hB : B ≤ D) (hD : D < W.heap.size) : Below B w (W.putObj D o) :=
  h.grown (grownBy_putObj' W D o) (by omega) (fun k e => by cases e; exact hB)
end Go.Proofs.YtacdbnhnhdlmpaaGreatDoor.W
end
