/- Texts joined: EdB EdF EdS. -/
import Derived.Test.YtacdbnhnhdlmpaaGreatDoorFE24
set_option maxRecDepth 100000
set_option maxHeartbeats 40000000
set_option linter.unusedVariables false
set_option linter.unusedSimpArgs false
section
namespace Go.Proofs.YtacdbnhnhdlmpaaGreatDoor.W
open Go.RowKit
section
variable {B : Nat} {w0 w : World} {Q : Nat} {ar : Bool} {l : List Ob} {E : RE} {L : List (Value × List (Mo × Mo))}
set_option maxRecDepth 100000 in
set_option maxHeartbeats 16000000 in
theorem back_some (h : EdAt B w0 Q ar l E L w) (us : List (Mo × Mo)) (x : Mo × Mo) (hu : E.undo = us ++ [x]) (hul : us.length ≤ 1000) (hrl : E.redo.length ≤ 1000) :
    Calls Tryz.prog 70 #[.pointer (some ⟨Q, 0, none⟩)] w fun e w' => e = .returned (.bool true) ∧ ∃ L', L ⊆ L' ∧ EdAt B w0 Q ar l E.back L' w' := by
  obtain ⟨uv, rv, hA, hmu, hmr⟩ := h
  have hL : ∀ p ∈ L, Rd w p.1 p.2 := hA.tail.head
  have hk : Blk w Q (edC ar E uv rv) 51 := hA.head
  have hRu := hL _ hmu
  have hRr := hL _ hmr
  simp only at hRu hRr
  rw [hu] at hRu
  obtain ⟨ug, uo, uc, rfl, huc, hum, hcl⟩ := hRu.full (by simp)
  obtain ⟨ra, rc, rfl⟩ := hRr.shape
  have c4 := hk.cell 4
  have c5 := hk.cell 5
  have f4 := hk.free 4
  simp only [edC, strV, List.getElem?_cons_succ, List.getElem?_cons_zero] at c4 c5
  have hlen : (((us.length : Int) + 1) == 0) = false := by simp; omega
  have p0 := hRu.last 0 (by omega)
  have p1 := hRu.last 1 (by omega)
  have p2 := hRu.last 2 (by omega)
  have p3 := hRu.last 3 (by omega)
  have p4 := hRu.last 4 (by omega)
  have p5 := hRu.last 5 (by omega)
  simp only [chC, strV, List.getElem?_cons_succ, List.getElem?_cons_zero, Nat.add_zero] at p0 p1 p2 p3 p4 p5
  rw [List.length_append, List.length_singleton] at c4 huc
  have HA := Lib.hid hA
  have HRu := Lib.hid hRu
  have HRr := Lib.hid hRr
  have HM := Lib.hid (And.intro hmu hmr)
  have hQ := hk.lt
  have hug : ug < w.heap.size := cell_lt p0
  clear hA hL hk hRu hRr hmu hmr hcl
  go_enter Tryz.func70, Tryz.ntmps70
  go_upto_region 6 with fail
  have hP : Rd w (.slice (some ⟨ug, uo, none⟩) us.length uc) us := Rd.pop HRu.out
  have hA0 := All.coAdd [bk Q (edC ar E (.slice (some ⟨ug, uo, none⟩) (us ++ [x]).length uc) (.slice ra E.redo.length rc)) 51] HA.out hP (fun k hk => ⟨_, HM.out.1, rdF_up hk (by simp)⟩)
  have hA1 := (All.setBk [] hA0 4 (.slice (some ⟨ug, uo, none⟩) us.length uc)).newBkA w.heap.size (by simp [World.setCell]) (chC x) 179
  have hA2 : All B w0 (bk w.heap.size (chC x) 179 :: bk Q (edC ar E (.slice (some ⟨ug, uo, none⟩) us.length uc) (.slice ra E.redo.length rc)) 51 :: co ((.slice (some ⟨ug, uo, none⟩) us.length uc, us) :: L) :: l) ((w.setCell ⟨Q, 4, none⟩ (.slice (some ⟨ug, uo, none⟩) us.length uc)).alloc (.cells #[.string ⟨x.1.val.toArray⟩, .int .i64 (x.1.st : Int), .int .i64 (x.1.en : Int), .string ⟨x.2.val.toArray⟩, .int .i64 (x.2.st : Int), .int .i64 (x.2.en : Int)] 179)) := hA1
  have HA2 := Lib.hid hA2
  have HM2 := Lib.hid (show (Value.slice (some ⟨ug, uo, none⟩) us.length uc, us) ∈ ((Value.slice (some ⟨ug, uo, none⟩) us.length uc, us) :: L) ∧ (Value.slice ra E.redo.length rc, E.redo) ∈ ((Value.slice (some ⟨ug, uo, none⟩) us.length uc, us) :: L) from ⟨List.mem_cons_self .., List.mem_cons_of_mem _ HM.out.2⟩)
  have HS := Lib.hid (show L ⊆ ((Value.slice (some ⟨ug, uo, none⟩) us.length uc, us) :: L) from List.subset_cons_self _ _)
  have hgq : Q ≠ w.heap.size := by omega
  clear hA0 hA1 hA2 hP HRu HRr HA HM c4 c5 f4 p0 p1 p2 p3 p4 p5
  generalize ((Value.slice (some ⟨ug, uo, none⟩) us.length uc, us) :: L) = L1 at *
  generalize w.heap.size = gx at *
  generalize (w.setCell ⟨Q, 4, none⟩ (.slice (some ⟨ug, uo, none⟩) us.length uc)).alloc (.cells #[.string ⟨x.1.val.toArray⟩, .int .i64 (x.1.st : Int), .int .i64 (x.1.en : Int), .string ⟨x.2.val.toArray⟩, .int .i64 (x.2.st : Int), .int .i64 (x.2.en : Int)] 179) = W at *
  have hbx : Blk W gx (chC x) 179 := HA2.out.head
  have hbq : Blk W Q (edC ar E (.slice (some ⟨ug, uo, none⟩) us.length uc) (.slice ra E.redo.length rc)) 51 := HA2.out.tail.head
  have hRr : Rd W (.slice ra E.redo.length rc) E.redo := (show ∀ p ∈ L1, Rd W p.1 p.2 from HA2.out.tail.tail.head) _ HM2.out.2
  have HR := Lib.hid hRr
  have q5 := hbq.cell 5
  have hQW := hbq.lt
  have hgW := hbx.lt
  simp only [edC, strV, List.getElem?_cons_succ, List.getElem?_cons_zero] at q5
  have b0 := hbx.cell 0
  have b1 := hbx.cell 1
  have b2 := hbx.cell 2
  have b3 := hbx.cell 3
  have b4 := hbx.cell 4
  have b5 := hbx.cell 5
  simp only [chC, strV, List.getElem?_cons_succ, List.getElem?_cons_zero] at b0 b1 b2 b3 b4 b5
  have HBQ := Lib.hid hbq
  clear hbx hbq hRr
  have eq1 : ∀ o, (W.alloc o).cell? ⟨Q, 5, none⟩ = some (.slice ra E.redo.length rc) := fun o => (World.cell?_alloc_lt _ _ _ hQW).trans q5
  have eq2 : ∀ o o', ((W.alloc o).alloc o').cell? ⟨Q, 5, none⟩ = some (.slice ra E.redo.length rc) := fun o o' => (World.cell?_alloc_lt _ _ _ (by simp; omega)).trans (eq1 o)
  have HKp : ∀ {u : Value} (j : Nat), W.cell? ⟨gx, j, none⟩ = some u → (∀ o, (W.alloc o).cell? ⟨gx, j, none⟩ = some u) ∧ (∀ o o', ((W.alloc o).alloc o').cell? ⟨gx, j, none⟩ = some u) := fun {u} j h => ⟨fun o => (World.cell?_alloc_lt _ _ _ hgW).trans h, fun o o' => (World.cell?_alloc_lt _ _ _ (by simp; omega)).trans ((World.cell?_alloc_lt _ _ _ hgW).trans h)⟩
  obtain ⟨u0, x0⟩ := HKp 0 b0
  obtain ⟨u1, x1⟩ := HKp 1 b1
  obtain ⟨u2, x2⟩ := HKp 2 b2
  obtain ⟨u3, x3⟩ := HKp 3 b3
  obtain ⟨u4, x4⟩ := HKp 4 b4
  obtain ⟨uu5, x5⟩ := HKp 5 b5
  clear HKp
  go_cut [] (fun wx => ∃ va vc w6, wx = w6.setCell ⟨Q, 5, none⟩ (.slice va (E.redo.length + 1) vc) ∧ Below W.heap.size W w6 ∧ w6.ownsRow W.heap.size 179 6 (.slice va (E.redo.length + 1) vc) (E.redo.length + 1) (rows chC (E.redo ++ [x])))
  case first =>
    go_region_law (first
      | (refine step_append_new etC (by omega) (W := W) (by first | exact (below_alloc (Below.refl _ _) _).drew | exact (below_alloc (below_alloc (Below.refl _ _) _) _).drew) _ HR.out (by omega) (by rfl) _ _ (by rfl) (by rfl) (by rfl) ?_
         intro v' w5 hb5 hn5 hk5
         obtain ⟨na, nc, rfl⟩ := hn5.shape
         have HB5 := Lib.hid hb5
         have HN5 := Lib.hid hn5
         have HK5 := Lib.hid hk5
         have t0 := cell_keep hb5 b0
         have t1 := cell_keep hb5 b1
         have t2 := cell_keep hb5 b2
         have t3 := cell_keep hb5 b3
         have t4 := cell_keep hb5 b4
         have t5 := cell_keep hb5 b5
         clear hb5 hn5 hk5)
      | (refine step_append_more etC (by omega) (W := W) (y := x) (by first | exact HB5.out | exact below_alloc HB5.out _) (by first | exact HN5.out | exact HN5.out.below ((Below.refl _ _).alloc (Nat.le_refl _) _)) (by first | exact fun j u hj => ((Blk.new _ (chC x) 179).cell j).trans hj | exact fun j u hj => HK5.out _ _ _ ((two_new _ _ (chC x) 179 j).trans hj) | exact fun j u hj => HK5.out _ _ _ ((two_old _ _ (chC x) 179 j).trans hj)) (by omega) (by rfl) _ _ (by rfl) (by rfl) (by rfl) ?_
         intro v' w6 hb6 hr6
         obtain ⟨va, vc, rfl⟩ := own_shapeB hr6
         have HB6 := Lib.hid hb6
         have HR6 := Lib.hid hr6
         have s5 := (HBQ.out.below hb6).cell 5
         have s6 := (HBQ.out.below hb6).free 5
         simp only [edC, List.getElem?_cons_succ, List.getElem?_cons_zero] at s5
         clear hb6 hr6))
    all_goals
      go_wp2_with fail
      go_meet
      exact ⟨va, vc, _, rfl, HB6.out, HR6.out⟩
  case rest =>
    obtain ⟨va, vc, w6, rfl, hb6, hr6⟩ := hcut
    obtain ⟨hr7, hr8⟩ := Rd.own (cs := E.redo ++ [x]) (by simpa using hr6)
    have hA6 := All.coNew [bk gx (chC x) 179, bk Q (edC ar E (.slice (some ⟨ug, uo, none⟩) us.length uc) (.slice ra E.redo.length rc)) 51] HA2.out hb6 hr7 hr8
    have hA7 := All.setBk [bk gx (chC x) 179] hA6 5 (.slice va (E.redo.length + 1) vc)
    have hA8 : All B w0 (bk gx (chC x) 179 :: bk Q (edC ar E (.slice (some ⟨ug, uo, none⟩) us.length uc) (.slice va (E.redo.length + 1) vc)) 51 :: co ((.slice va (E.redo.length + 1) vc, E.redo ++ [x]) :: L1) :: l) (w6.setCell ⟨Q, 5, none⟩ (.slice va (E.redo.length + 1) vc)) := hA7
    clear hA6 hA7 hr6 hr7 hr8 hb6 eq1 eq2 u0 u1 u2 u3 u4 uu5 x0 x1 x2 x3 x4 x5 b0 b1 b2 b3 b4 b5 q5
    generalize w6.setCell ⟨Q, 5, none⟩ (.slice va (E.redo.length + 1) vc) = w7 at *
    have hbx : Blk w7 gx (chC x) 179 := hA8.head
    have hbq : Blk w7 Q (edC ar E (.slice (some ⟨ug, uo, none⟩) us.length uc) (.slice va (E.redo.length + 1) vc)) 51 := hA8.tail.head
    have b0 := hbx.cell 0
    have b1 := hbx.cell 1
    have b2 := hbx.cell 2
    simp only [chC, strV, List.getElem?_cons_succ, List.getElem?_cons_zero] at b0 b1 b2
    have q1 := hbq.cell 1
    have q2 := hbq.cell 2
    have q3 := hbq.cell 3
    have f1 := hbq.free 1
    have f2 := hbq.free 2
    have f3 := hbq.free 3
    simp only [edC, strV, List.getElem?_cons_succ, List.getElem?_cons_zero] at q1 q2 q3
    have HA8 := Lib.hid hA8
    clear hA8 hbx hbq
    go_wp2_with fail
    go_ret
    have h1 := All.setBk [bk gx (chC x) 179] HA8.out 1 (strV x.1.val)
    have h2 := All.setBk [bk gx (chC x) 179] h1 2 (.int .i64 (x.1.st : Int))
    have h3 := All.setBk [bk gx (chC x) 179] h2 3 (.int .i64 (x.1.en : Int))
    refine ⟨rfl, (.slice va (E.redo.length + 1) vc, E.redo ++ [x]) :: L1, fun p hp => List.mem_cons_of_mem _ (HS.out hp), .slice (some ⟨ug, uo, none⟩) us.length uc, .slice va (E.redo.length + 1) vc, ?_, ?_, ?_⟩
    · have : E.back = ⟨x.1, us, E.redo ++ [x]⟩ := by unfold RE.back; rw [hu, List.getLast?_concat, List.dropLast_concat]
      rw [this]
      exact h3.tail
    · have : E.back = ⟨x.1, us, E.redo ++ [x]⟩ := by unfold RE.back; rw [hu, List.getLast?_concat, List.dropLast_concat]
      rw [this]
      exact List.mem_cons_of_mem _ HM2.out.1
    · have : E.back = ⟨x.1, us, E.redo ++ [x]⟩ := by unfold RE.back; rw [hu, List.getLast?_concat, List.dropLast_concat]
      rw [this]
      exact List.mem_cons_self ..
theorem back_none (h : EdAt B w0 Q ar l E L w) (hu : E.undo = []) :
    Calls Tryz.prog 70 #[.pointer (some ⟨Q, 0, none⟩)] w fun e w' => e = .returned (.bool false) ∧ w = w' := by
  obtain ⟨uv, rv, hA, hmu, hmr⟩ := h
  have hL : ∀ p ∈ L, Rd w p.1 p.2 := hA.tail.head
  have hk : Blk w Q (edC ar E uv rv) 51 := hA.head
  have hRu := hL _ hmu
  simp only at hRu
  rw [hu] at hRu
  obtain ⟨ra, rc, rfl⟩ := hRu.shape
  have c4 := hk.cell 4
  simp only [edC, strV, List.getElem?_cons_succ, List.getElem?_cons_zero, List.length_nil] at c4
  clear hA hL hk hRu
  go_enter Tryz.func70, Tryz.ntmps70
  go_wp2_with fail
  go_ret
  exact ⟨rfl, rfl⟩
end
section
variable {B : Nat} {w0 w : World} {Q : Nat} {ar : Bool} {l : List Ob} {E : RE} {L : List (Value × List (Mo × Mo))}
set_option maxRecDepth 100000 in
set_option maxHeartbeats 16000000 in
theorem forth_some (h : EdAt B w0 Q ar l E L w) (us : List (Mo × Mo)) (x : Mo × Mo) (hu : E.redo = us ++ [x]) (hul : us.length ≤ 1000) (hrl : E.undo.length ≤ 1000) :
    Calls Tryz.prog 71 #[.pointer (some ⟨Q, 0, none⟩)] w fun e w' => e = .returned (.bool true) ∧ ∃ L', L ⊆ L' ∧ EdAt B w0 Q ar l E.forth L' w' := by
  obtain ⟨rv, uv, hA, hmr, hmu⟩ := h
  have hL : ∀ p ∈ L, Rd w p.1 p.2 := hA.tail.head
  have hk : Blk w Q (edC ar E rv uv) 51 := hA.head
  have hRu := hL _ hmu
  have hRr := hL _ hmr
  simp only at hRu hRr
  rw [hu] at hRu
  obtain ⟨ug, uo, uc, rfl, huc, hum, hcl⟩ := hRu.full (by simp)
  obtain ⟨ra, rc, rfl⟩ := hRr.shape
  have c4 := hk.cell 5
  have c5 := hk.cell 4
  have f4 := hk.free 5
  simp only [edC, strV, List.getElem?_cons_succ, List.getElem?_cons_zero] at c4 c5
  have hlen : (((us.length : Int) + 1) == 0) = false := by simp; omega
  have p0 := hRu.last 0 (by omega)
  have p1 := hRu.last 1 (by omega)
  have p2 := hRu.last 2 (by omega)
  have p3 := hRu.last 3 (by omega)
  have p4 := hRu.last 4 (by omega)
  have p5 := hRu.last 5 (by omega)
  simp only [chC, strV, List.getElem?_cons_succ, List.getElem?_cons_zero, Nat.add_zero] at p0 p1 p2 p3 p4 p5
  rw [List.length_append, List.length_singleton] at c4 huc
  have HA := Lib.hid hA
  have HRu := Lib.hid hRu
  have HRr := Lib.hid hRr
  have HM := Lib.hid (And.intro hmu hmr)
  have hQ := hk.lt
  have hug : ug < w.heap.size := cell_lt p0
  clear hA hL hk hRu hRr hmu hmr hcl
  go_enter Tryz.func71, Tryz.ntmps71
  go_upto_region 6 with fail
  have hP : Rd w (.slice (some ⟨ug, uo, none⟩) us.length uc) us := Rd.pop HRu.out
  have hA0 := All.coAdd [bk Q (edC ar E (.slice ra E.undo.length rc) (.slice (some ⟨ug, uo, none⟩) (us ++ [x]).length uc)) 51] HA.out hP (fun k hk => ⟨_, HM.out.1, rdF_up hk (by simp)⟩)
  have hA1 := (All.setBk [] hA0 5 (.slice (some ⟨ug, uo, none⟩) us.length uc)).newBkA w.heap.size (by simp [World.setCell]) (chC x) 179
  have hA2 : All B w0 (bk w.heap.size (chC x) 179 :: bk Q (edC ar E (.slice ra E.undo.length rc) (.slice (some ⟨ug, uo, none⟩) us.length uc)) 51 :: co ((.slice (some ⟨ug, uo, none⟩) us.length uc, us) :: L) :: l) ((w.setCell ⟨Q, 5, none⟩ (.slice (some ⟨ug, uo, none⟩) us.length uc)).alloc (.cells #[.string ⟨x.1.val.toArray⟩, .int .i64 (x.1.st : Int), .int .i64 (x.1.en : Int), .string ⟨x.2.val.toArray⟩, .int .i64 (x.2.st : Int), .int .i64 (x.2.en : Int)] 179)) := hA1
  have HA2 := Lib.hid hA2
  have HM2 := Lib.hid (show (Value.slice (some ⟨ug, uo, none⟩) us.length uc, us) ∈ ((Value.slice (some ⟨ug, uo, none⟩) us.length uc, us) :: L) ∧ (Value.slice ra E.undo.length rc, E.undo) ∈ ((Value.slice (some ⟨ug, uo, none⟩) us.length uc, us) :: L) from ⟨List.mem_cons_self .., List.mem_cons_of_mem _ HM.out.2⟩)
  have HS := Lib.hid (show L ⊆ ((Value.slice (some ⟨ug, uo, none⟩) us.length uc, us) :: L) from List.subset_cons_self _ _)
  have hgq : Q ≠ w.heap.size := by omega
  clear hA0 hA1 hA2 hP HRu HRr HA HM c4 c5 f4 p0 p1 p2 p3 p4 p5
  generalize ((Value.slice (some ⟨ug, uo, none⟩) us.length uc, us) :: L) = L1 at *
  generalize w.heap.size = gx at *
  generalize (w.setCell ⟨Q, 5, none⟩ (.slice (some ⟨ug, uo, none⟩) us.length uc)).alloc (.cells #[.string ⟨x.1.val.toArray⟩, .int .i64 (x.1.st : Int), .int .i64 (x.1.en : Int), .string ⟨x.2.val.toArray⟩, .int .i64 (x.2.st : Int), .int .i64 (x.2.en : Int)] 179) = W at *
  have hbx : Blk W gx (chC x) 179 := HA2.out.head
  have hbq : Blk W Q (edC ar E (.slice ra E.undo.length rc) (.slice (some ⟨ug, uo, none⟩) us.length uc)) 51 := HA2.out.tail.head
  have hRr : Rd W (.slice ra E.undo.length rc) E.undo := (show ∀ p ∈ L1, Rd W p.1 p.2 from HA2.out.tail.tail.head) _ HM2.out.2
  have HR := Lib.hid hRr
  have q5 := hbq.cell 4
  have hQW := hbq.lt
  have hgW := hbx.lt
  simp only [edC, strV, List.getElem?_cons_succ, List.getElem?_cons_zero] at q5
  have b0 := hbx.cell 0
  have b1 := hbx.cell 1
  have b2 := hbx.cell 2
  have b3 := hbx.cell 3
  have b4 := hbx.cell 4
  have b5 := hbx.cell 5
  simp only [chC, strV, List.getElem?_cons_succ, List.getElem?_cons_zero] at b0 b1 b2 b3 b4 b5
  have HBQ := Lib.hid hbq
  clear hbx hbq hRr
  have eq1 : ∀ o, (W.alloc o).cell? ⟨Q, 4, none⟩ = some (.slice ra E.undo.length rc) := fun o => (World.cell?_alloc_lt _ _ _ hQW).trans q5
  have eq2 : ∀ o o', ((W.alloc o).alloc o').cell? ⟨Q, 4, none⟩ = some (.slice ra E.undo.length rc) := fun o o' => (World.cell?_alloc_lt _ _ _ (by simp; omega)).trans (eq1 o)
  have HKp : ∀ {u : Value} (j : Nat), W.cell? ⟨gx, j, none⟩ = some u → (∀ o, (W.alloc o).cell? ⟨gx, j, none⟩ = some u) ∧ (∀ o o', ((W.alloc o).alloc o').cell? ⟨gx, j, none⟩ = some u) := fun {u} j h => ⟨fun o => (World.cell?_alloc_lt _ _ _ hgW).trans h, fun o o' => (World.cell?_alloc_lt _ _ _ (by simp; omega)).trans ((World.cell?_alloc_lt _ _ _ hgW).trans h)⟩
  obtain ⟨u0, x0⟩ := HKp 0 b0
  obtain ⟨u1, x1⟩ := HKp 1 b1
  obtain ⟨u2, x2⟩ := HKp 2 b2
  obtain ⟨u3, x3⟩ := HKp 3 b3
  obtain ⟨u4, x4⟩ := HKp 4 b4
  obtain ⟨uu5, x5⟩ := HKp 5 b5
  clear HKp
  go_cut [] (fun wx => ∃ va vc w6, wx = w6.setCell ⟨Q, 4, none⟩ (.slice va (E.undo.length + 1) vc) ∧ Below W.heap.size W w6 ∧ w6.ownsRow W.heap.size 179 6 (.slice va (E.undo.length + 1) vc) (E.undo.length + 1) (rows chC (E.undo ++ [x])))
  case first =>
    go_region_law (first
      | (refine step_append_new etC (by omega) (W := W) (by first | exact (below_alloc (Below.refl _ _) _).drew | exact (below_alloc (below_alloc (Below.refl _ _) _) _).drew) _ HR.out (by omega) (by rfl) _ _ (by rfl) (by rfl) (by rfl) ?_
         intro v' w5 hb5 hn5 hk5
         obtain ⟨na, nc, rfl⟩ := hn5.shape
         have HB5 := Lib.hid hb5
         have HN5 := Lib.hid hn5
         have HK5 := Lib.hid hk5
         have t0 := cell_keep hb5 b0
         have t1 := cell_keep hb5 b1
         have t2 := cell_keep hb5 b2
         have t3 := cell_keep hb5 b3
         have t4 := cell_keep hb5 b4
         have t5 := cell_keep hb5 b5
         clear hb5 hn5 hk5)
      | (refine step_append_more etC (by omega) (W := W) (y := x) (by first | exact HB5.out | exact below_alloc HB5.out _) (by first | exact HN5.out | exact HN5.out.below ((Below.refl _ _).alloc (Nat.le_refl _) _)) (by first | exact fun j u hj => ((Blk.new _ (chC x) 179).cell j).trans hj | exact fun j u hj => HK5.out _ _ _ ((two_new _ _ (chC x) 179 j).trans hj) | exact fun j u hj => HK5.out _ _ _ ((two_old _ _ (chC x) 179 j).trans hj)) (by omega) (by rfl) _ _ (by rfl) (by rfl) (by rfl) ?_
         intro v' w6 hb6 hr6
         obtain ⟨va, vc, rfl⟩ := own_shapeB hr6
         have HB6 := Lib.hid hb6
         have HR6 := Lib.hid hr6
         have s5 := (HBQ.out.below hb6).cell 4
         have s6 := (HBQ.out.below hb6).free 4
         simp only [edC, List.getElem?_cons_succ, List.getElem?_cons_zero] at s5
         clear hb6 hr6))
    all_goals
      go_wp2_with fail
      go_meet
      exact ⟨va, vc, _, rfl, HB6.out, HR6.out⟩
  case rest =>
    obtain ⟨va, vc, w6, rfl, hb6, hr6⟩ := hcut
    obtain ⟨hr7, hr8⟩ := Rd.own (cs := E.undo ++ [x]) (by simpa using hr6)
    have hA6 := All.coNew [bk gx (chC x) 179, bk Q (edC ar E (.slice ra E.undo.length rc) (.slice (some ⟨ug, uo, none⟩) us.length uc)) 51] HA2.out hb6 hr7 hr8
    have hA7 := All.setBk [bk gx (chC x) 179] hA6 4 (.slice va (E.undo.length + 1) vc)
    have hA8 : All B w0 (bk gx (chC x) 179 :: bk Q (edC ar E (.slice va (E.undo.length + 1) vc) (.slice (some ⟨ug, uo, none⟩) us.length uc)) 51 :: co ((.slice va (E.undo.length + 1) vc, E.undo ++ [x]) :: L1) :: l) (w6.setCell ⟨Q, 4, none⟩ (.slice va (E.undo.length + 1) vc)) := hA7
    clear hA6 hA7 hr6 hr7 hr8 hb6 eq1 eq2 u0 u1 u2 u3 u4 uu5 x0 x1 x2 x3 x4 x5 b0 b1 b2 b3 b4 b5 q5
    generalize w6.setCell ⟨Q, 4, none⟩ (.slice va (E.undo.length + 1) vc) = w7 at *
    have hbx : Blk w7 gx (chC x) 179 := hA8.head
    have hbq : Blk w7 Q (edC ar E (.slice va (E.undo.length + 1) vc) (.slice (some ⟨ug, uo, none⟩) us.length uc)) 51 := hA8.tail.head
    have b0 := hbx.cell 3
    have b1 := hbx.cell 4
    have b2 := hbx.cell 5
    simp only [chC, strV, List.getElem?_cons_succ, List.getElem?_cons_zero] at b0 b1 b2
    have q1 := hbq.cell 1
    have q2 := hbq.cell 2
    have q3 := hbq.cell 3
    have f1 := hbq.free 1
    have f2 := hbq.free 2
    have f3 := hbq.free 3
    simp only [edC, strV, List.getElem?_cons_succ, List.getElem?_cons_zero] at q1 q2 q3
    have HA8 := Lib.hid hA8
    clear hA8 hbx hbq
    go_wp2_with fail
    go_ret
    have h1 := All.setBk [bk gx (chC x) 179] HA8.out 1 (strV x.2.val)
    have h2 := All.setBk [bk gx (chC x) 179] h1 2 (.int .i64 (x.2.st : Int))
    have h3 := All.setBk [bk gx (chC x) 179] h2 3 (.int .i64 (x.2.en : Int))
    refine ⟨rfl, (.slice va (E.undo.length + 1) vc, E.undo ++ [x]) :: L1, fun p hp => List.mem_cons_of_mem _ (HS.out hp), .slice va (E.undo.length + 1) vc, .slice (some ⟨ug, uo, none⟩) us.length uc, ?_, ?_, ?_⟩
    · have : E.forth = ⟨x.2, E.undo ++ [x], us⟩ := by unfold RE.forth; rw [hu, List.getLast?_concat, List.dropLast_concat]
      rw [this]
      exact h3.tail
    · have : E.forth = ⟨x.2, E.undo ++ [x], us⟩ := by unfold RE.forth; rw [hu, List.getLast?_concat, List.dropLast_concat]
      rw [this]
      exact List.mem_cons_self ..
    · have : E.forth = ⟨x.2, E.undo ++ [x], us⟩ := by unfold RE.forth; rw [hu, List.getLast?_concat, List.dropLast_concat]
      rw [this]
      exact List.mem_cons_of_mem _ HM2.out.1
theorem forth_none (h : EdAt B w0 Q ar l E L w) (hu : E.redo = []) :
    Calls Tryz.prog 71 #[.pointer (some ⟨Q, 0, none⟩)] w fun e w' => e = .returned (.bool false) ∧ w = w' := by
  obtain ⟨rv, uv, hA, hmr, hmu⟩ := h
  have hL : ∀ p ∈ L, Rd w p.1 p.2 := hA.tail.head
  have hk : Blk w Q (edC ar E rv uv) 51 := hA.head
  have hRu := hL _ hmu
  simp only at hRu
  rw [hu] at hRu
  obtain ⟨ra, rc, rfl⟩ := hRu.shape
  have c4 := hk.cell 5
  simp only [edC, strV, List.getElem?_cons_succ, List.getElem?_cons_zero, List.length_nil] at c4
  clear hA hL hk hRu
  go_enter Tryz.func71, Tryz.ntmps71
  go_wp2_with fail
  go_ret
  exact ⟨rfl, rfl⟩
end
section
variable {B : Nat} {w0 w : World} {Q : Nat} {ar : Bool} {l : List Ob} {E : RE} {L : List (Value × List (Mo × Mo))}
theorem EdAt.blk (h : EdAt B w0 Q ar l E L w) : w.cell? ⟨Q, 0, none⟩ = some (.bool ar) ∧ w.cell? ⟨Q, 1, none⟩ = some (.string ⟨E.now.val.toArray⟩) ∧ w.cell? ⟨Q, 2, none⟩ = some (.int .i64 (E.now.st : Int)) ∧ w.cell? ⟨Q, 3, none⟩ = some (.int .i64 (E.now.en : Int)) := by
  obtain ⟨uv, rv, hA, hmu, hmr⟩ := h
  have hk : Blk w Q (edC ar E uv rv) 51 := hA.head
  exact ⟨hk.cell 0, hk.cell 1, hk.cell 2, hk.cell 3⟩
set_option maxRecDepth 100000 in
set_option maxHeartbeats 4000000 in
theorem rselect_any (h : EdAt B w0 Q ar l E L w) (hvd : Vd E.now.val) (hn : E.now.val.length ≤ 1000000) (a b : Int) :
    Calls Tryz.prog 68 #[.pointer (some ⟨Q, 0, none⟩), .int .i64 a, .int .i64 b] w fun e w' => e = .returned (.tuple #[]) ∧ EdAt B w0 Q ar l (E.sel a b) L w' := by
  obtain ⟨uv, rv, hA, hmu, hmr⟩ := h
  have hk : Blk w Q (edC ar E uv rv) 51 := hA.head
  have q1 := hk.cell 1
  simp only [edC, strV, List.getElem?_cons_succ, List.getElem?_cons_zero] at q1
  have HLe := Lib.hid (rlen_any E.now.val hvd w hn)
  have HA := Lib.hid hA
  have hnn : (nL E.now.val : Int) ≤ 1000000 := by have := nL_le E.now.val; omega
  clear hA hk
  go_enter Tryz.func68, Tryz.ntmps68
  go_wp2_with fail
  refine HLe.out.mono ?_
  rintro e w1 ⟨rfl, hb1⟩
  have hA1 := HA.out.still hb1
  have hk : Blk w1 Q (edC ar E uv rv) 51 := hA1.head
  have q2 := hk.cell 2
  have q3 := hk.cell 3
  have f2 := hk.free 2
  have f3 := hk.free 3
  simp only [edC, strV, List.getElem?_cons_succ, List.getElem?_cons_zero] at q2 q3
  have h1 := All.setBk [] hA1 2 (.int .i64 (min (max a 0) (nL E.now.val : Int)))
  have h2 := All.setBk [] h1 3 (.int .i64 (min (max b (min (max a 0) (nL E.now.val : Int))) (nL E.now.val : Int)))
  have HA2 := Lib.hid h2
  clear hA1 hk h1 h2 HA HLe q1 hb1
  go_wp2_with fail
  go_end0
  refine ⟨rfl, uv, rv, ?_, hmu, hmr⟩
  have h3 := HA2.out
  have e : edC ar (E.sel a b) uv rv = ((edC ar E uv rv).set 2 (.int .i64 (min (max a 0) (nL E.now.val : Int)))).set 3 (.int .i64 (min (max b (min (max a 0) (nL E.now.val : Int))) (nL E.now.val : Int))) := by
    simp only [edC, RE.sel, List.set_cons_succ, List.set_cons_zero]
    rw [Int.toNat_of_nonneg (by omega), Int.toNat_of_nonneg (by omega)]
  rw [e]
  exact h3
set_option maxRecDepth 100000 in
set_option maxHeartbeats 4000000 in
theorem rset_any (h : EdAt B w0 Q ar l E L w) (x : List UInt8) (hx : x.length ≤ 10000) :
    Calls Tryz.prog 72 #[.pointer (some ⟨Q, 0, none⟩), .string ⟨x.toArray⟩] w fun e w' => e = .returned (.tuple #[]) ∧ EdAt B w0 Q ar l (E.set (cleanL ar x)) ((.slice none 0 0, []) :: L) w' := by
  obtain ⟨uv, rv, hA, hmu, hmr⟩ := h
  have hk : Blk w Q (edC ar E uv rv) 51 := hA.head
  have q0 := hk.cell 0
  simp only [edC, strV, List.getElem?_cons_succ, List.getElem?_cons_zero] at q0
  have HCl := Lib.hid (rclean_any x ar w hx)
  have hcl := clean_len ar x
  have hcv := clean_vd ar x
  generalize cleanL ar x = y at *
  have HLe := Lib.hid (fun wx => rlen_any y hcv wx (by omega))
  have hA0 := All.coAdd [bk Q (edC ar E uv rv) 51] hA (Rd.nil w) (fun k hk => hk.elim)
  have HA := Lib.hid hA0
  have hnn : (nL y : Int) ≤ 1000000 := by have := nL_le y; omega
  clear hA hk hA0
  go_enter Tryz.func72, Tryz.ntmps72
  go_wp2_with fail
  refine HCl.out.mono ?_
  rintro e w1 ⟨rfl, hb1⟩
  go_wp2_with fail
  refine (HLe.out _).mono ?_
  rintro e w2 ⟨rfl, hb2⟩
  go_wp2_with fail
  refine (HLe.out _).mono ?_
  rintro e w3 ⟨rfl, hb3⟩
  have hA1 := HA.out.still (bthen hb1 (bthen hb2 hb3))
  have hk : Blk w3 Q (edC ar E uv rv) 51 := hA1.head
  have q1 := hk.cell 1
  have q2 := hk.cell 2
  have q3 := hk.cell 3
  have q4 := hk.cell 4
  have q5 := hk.cell 5
  have f1 := hk.free 1
  have f2 := hk.free 2
  have f3 := hk.free 3
  have f4 := hk.free 4
  have f5 := hk.free 5
  simp only [edC, strV, List.getElem?_cons_succ, List.getElem?_cons_zero] at q1 q2 q3 q4 q5
  have h1 := All.setBk [] hA1 1 (strV y)
  have h2 := All.setBk [] h1 2 (.int .i64 (nL y : Int))
  have h3 := All.setBk [] h2 3 (.int .i64 (nL y : Int))
  have h4 := All.setBk [] h3 4 (.slice none 0 0)
  have h5 := All.setBk [] h4 5 (.slice none 0 0)
  have HA5 := Lib.hid h5
  clear hA1 hk h1 h2 h3 h4 h5 HA HLe HCl q0 hb1 hb2 hb3
  go_wp2_with fail
  go_end0
  exact ⟨rfl, .slice none 0 0, .slice none 0 0, HA5.out, List.mem_cons_self .., List.mem_cons_self ..⟩
end
end Go.Proofs.YtacdbnhnhdlmpaaGreatDoor.W
end
