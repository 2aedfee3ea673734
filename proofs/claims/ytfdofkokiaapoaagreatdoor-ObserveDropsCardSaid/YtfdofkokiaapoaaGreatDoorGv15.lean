/- Texts joined: WtL Watd Pln. -/
import Derived.Test.YtfdofkokiaapoaaGreatDoorGv10
import Derived.Test.YtfdofkokiaapoaaGreatDoorGv14
section
/- The law's watch: the watch of a plan. -/
namespace Go.Proofs.YtfdofkokiaapoaaGreatDoor.W
open Go.RowKit
set_option linter.unusedVariables false
set_option linter.unusedSimpArgs false

/-- the four bytes of a plan -/
structure Pl4 where
  ob : Nat
  tg : Nat
  op : Nat
  fl : Nat
def Pl4.ok (p : Pl4) : Prop := p.ob ≤ 255 ∧ p.tg ≤ 255 ∧ p.op ≤ 255 ∧ p.fl ≤ 255
def plC (p : Pl4) : List Value := [.int .u8 (p.ob : Int), .int .u8 (p.tg : Int), .int .u8 (p.op : Int), .int .u8 (p.fl : Int)]
/-- a bit of a plan's options -/
def opB (op : Nat) (m : Int) : Bool := decide (0 < bits BinOp.and IntKind.u8 (op : Int) m)
def tgP (l : List Int) (t : Nat) : Int := l.getD (t % l.length) 0
def fltN (k : Nat) : List (List UInt8) := [[99, 108, 97, 115, 115], [105, 100], [116, 105, 116, 108, 101]].take k
/-- the watch of a plan -/
def wbP (l : List Int) (p : Pl4) (fv : Value) : Wt := ⟨tgP l p.tg, opB p.op 1, opB p.op 2, opB p.op 4, opB p.op 8, opB p.op 16, fltN (p.fl % 4), fv⟩

set_option maxRecDepth 100000 in
set_option maxHeartbeats 8000000 in
theorem watch_law {w : World} {lv : Value} {l : List Int} (p : Pl4) (hp : p.ok) (hl : Own w 3 1 lv l.length (hcells l)) (hn : l.length ≤ 1000) :
    Calls Tryz.prog 25 #[.agg (plC p).toArray, lv] w fun e w' => ∃ fv, e = .returned (.agg (encW (wbP l p fv)).toArray) ∧ Own w' 9 1 fv (fltN (p.fl % 4)).length ((fltN (p.fl % 4)).map strV) ∧ (∀ k, fv.ownBlock = some k → w.heap.size ≤ k) ∧ Below w.heap.size w w' := by
  obtain ⟨ob, tg, op, fl⟩ := p
  obtain ⟨h1, h2, h3, h4⟩ := hp
  simp only at h1 h2 h3 h4
  obtain ⟨la, lc, rfl⟩ := own_shape hl
  have hA1 := (((All.start w).newBkA w.heap.size rfl (plC ⟨ob, tg, op, fl⟩) 80).newBkA _ rfl [.int .i64 0, .bool false, .bool false, .bool false, .bool false, .bool false, .slice none 0 0] 58).newBkA _ rfl [.int .i64 0, .bool (opB op 1), .bool (opB op 2), .bool (opB op 4), .bool (opB op 8), .bool (opB op 16), .slice none 0 0] 58
  simp only [plC] at hA1
  have HA1 := Lib.hid hA1
  have HL := Lib.hid hl
  clear hA1 hl
  have hs1 : ∀ o : Obj, (w.alloc o).heap.size = w.heap.size + 1 := fun o => by simp
  have hs2 : ∀ o o2 : Obj, ((w.alloc o).alloc o2).heap.size = w.heap.size + 1 + 1 := fun o o2 => by simp
  simp only [plC]
  go_enter Tryz.func25, Tryz.ntmps25
  go_upto_region 2 with fail
  rw [hs2, hs1] at HA1
  generalize hk1 : opB op 1 = k1 at HA1
  have HK1 := Lib.hid hk1
  unfold opB at hk1
  rw [hk1]
  generalize hk2 : opB op 2 = k2 at HA1
  have HK2 := Lib.hid hk2
  unfold opB at hk2
  rw [hk2]
  generalize hk4 : opB op 4 = k4 at HA1
  have HK4 := Lib.hid hk4
  unfold opB at hk4
  rw [hk4]
  generalize hk8 : opB op 8 = k8 at HA1
  have HK8 := Lib.hid hk8
  unfold opB at hk8
  rw [hk8]
  generalize hk16 : opB op 16 = k16 at HA1
  have HK16 := Lib.hid hk16
  unfold opB at hk16
  rw [hk16]
  have hA2 := HA1.out
  generalize hr5 : w.heap.size + 1 + 1 = r5 at *
  generalize hr4 : w.heap.size + 1 = r4 at *
  generalize hr2 : w.heap.size = r2 at *
  generalize ((w.alloc (.cells #[.int .u8 (ob : Int), .int .u8 (tg : Int), .int .u8 (op : Int), .int .u8 (fl : Int)] 80)).alloc (.cells #[.int .i64 0, .bool false, .bool false, .bool false, .bool false, .bool false, .slice none 0 0] 58)).alloc (.cells #[.int .i64 0, .bool k1, .bool k2, .bool k4, .bool k8, .bool k16, .slice none 0 0] 58) = w2 at *
  have hm4 : (fl : Int) % 4 = 0 ∨ (fl : Int) % 4 = 1 ∨ (fl : Int) % 4 = 2 ∨ (fl : Int) % 4 = 3 := by omega
  have h5 : Blk _ _ _ _ := hA2.head
  have h4' : Blk _ _ _ _ := hA2.tail.head
  have h2' : Blk _ _ _ _ := hA2.tail.tail.head
  have HA2 := Lib.hid hA2
  clear hA2 HA1 hs1 hs2
  by_cases hz : l = []
  · subst hz
    have hT : tgP [] tg = 0 := rfl
    have p1 := h2'.cell 1
    have p3 := h2'.cell 3
    simp only [List.getElem?_cons_zero, List.getElem?_cons_succ] at p1 p3
    go_upto_region 4 with fail
    rcases hm4 with hm4 | hm4 | hm4 | hm4
    · have HM := Lib.hid (show fltN (fl % 4) = fltN 0 from by rw [show fl % 4 = 0 from by omega])
      go_upto_region 6 with fail
      have HA3 := HA2
      clear p1 p3 h5 h4' h2'

      have k5 : Blk w2 _ _ _ := HA3.out.head
      have k4' : Blk w2 _ _ _ := HA3.out.tail.head
      have g0 := k5.cell 0
      have d0 := k4'.cell 0
      have f0 := k4'.free 0
      have g1 := k5.cell 1
      have d1 := k4'.cell 1
      have f1 := k4'.free 1
      have g2 := k5.cell 2
      have d2 := k4'.cell 2
      have f2 := k4'.free 2
      have g3 := k5.cell 3
      have d3 := k4'.cell 3
      have f3 := k4'.free 3
      have g4 := k5.cell 4
      have d4 := k4'.cell 4
      have f4 := k4'.free 4
      have g5 := k5.cell 5
      have d5 := k4'.cell 5
      have f5 := k4'.free 5
      have g6 := k5.cell 6
      have d6 := k4'.cell 6
      have f6 := k4'.free 6
      simp only [List.getElem?_cons_zero, List.getElem?_cons_succ] at g0 d0 g1 d1 g2 d2 g3 d3 g4 d4 g5 d5 g6 d6
      clear k5 k4'
      go_wp2_with fail
      have h9 := (((((((HA3.out.setBk [_] 0 (.int .i64 0)).setBk [_] 1 (.bool k1)).setBk [_] 2 (.bool k2)).setBk [_] 3 (.bool k4)).setBk [_] 4 (.bool k8)).setBk [_] 5 (.bool k16)).setBk [_] 6 (.slice none 0 0))
      simp only [List.set_cons_succ, List.set_cons_zero, List.cons_append, List.nil_append] at h9
      have k9 : Blk _ r4 _ _ := h9.tail.head
      have e0 := k9.cell 0
      have e1 := k9.cell 1
      have e2 := k9.cell 2
      have e3 := k9.cell 3
      have e4 := k9.cell 4
      have e5 := k9.cell 5
      have e6 := k9.cell 6
      simp only [List.getElem?_cons_zero, List.getElem?_cons_succ] at e0 e1 e2 e3 e4 e5 e6
      refine bodyPost_ret (v := .agg #[.int .i64 0, .bool k1, .bool k2, .bool k4, .bool k8, .bool k16, (.slice none 0 0)]) (by simp [results, Tryz.results25, go_sem, e0, e1, e2, e3, e4, e5, e6]) rfl ?_
      exact ⟨.slice none 0 0, by simp only [encW, wbP, hT, HK1.out, HK2.out, HK4.out, HK8.out, HK16.out] <;> rfl, by rw [HM.out]; exact World.ownsRow_nil _ _ _ _, (fun k hk => by cases hk), by rw [hr2]; exact h9.below⟩
    · have HM := Lib.hid (show fltN (fl % 4) = fltN 1 from by rw [show fl % 4 = 1 from by omega])
      have hA6 := HA2.out.newSlA w2.heap.size rfl 9 1 3 [.string ⟨#[99, 108, 97, 115, 115]⟩, .string ⟨#[105, 100]⟩, .string ⟨#[116, 105, 116, 108, 101]⟩] (by rfl) (by omega)
      have hr6 := HA2.out.below.size
      rw [hr2] at hr6
      generalize hr6e : w2.heap.size = r6 at *
      have k2 : Blk _ _ _ _ := hA6.tail.tail.tail.head
      have k5 : Blk _ _ _ _ := hA6.tail.head
      have p3 := k2.cell 3
      have c56 := k5.cell 6
      have f56 := k5.free 6
      simp only [List.getElem?_cons_zero, List.getElem?_cons_succ] at p3 c56
      have HA7 := Lib.hid (hA6.setBk [_] 6 (.slice (some ⟨r6, 0, none⟩) 1 3))
      clear hA6 k2 k5 p1 h5 h4' h2'
      go_upto_region 6 with fail
      have HA3 := Lib.hid ((show All r2 w ([sl 9 1 (.slice (some ⟨r6, 0, none⟩) 3 3) 3 [.string ⟨#[99, 108, 97, 115, 115]⟩, .string ⟨#[105, 100]⟩, .string ⟨#[116, 105, 116, 108, 101]⟩]] ++ [bk r5 [.int .i64 0, .bool k1, .bool k2, .bool k4, .bool k8, .bool k16, .slice (some ⟨r6, 0, none⟩) 1 3] 58, _, _]) _ from HA7.out).perm List.perm_append_comm)
      clear HA7 p3 c56 f56
      generalize (w2.alloc (.cells #[.string ⟨#[99, 108, 97, 115, 115]⟩, .string ⟨#[105, 100]⟩, .string ⟨#[116, 105, 116, 108, 101]⟩] 9)).setCell ⟨r5, 6, none⟩ (.slice (some ⟨r6, 0, none⟩) 1 3) = w9 at *

      have k5 : Blk w9 _ _ _ := HA3.out.head
      have k4' : Blk w9 _ _ _ := HA3.out.tail.head
      have g0 := k5.cell 0
      have d0 := k4'.cell 0
      have f0 := k4'.free 0
      have g1 := k5.cell 1
      have d1 := k4'.cell 1
      have f1 := k4'.free 1
      have g2 := k5.cell 2
      have d2 := k4'.cell 2
      have f2 := k4'.free 2
      have g3 := k5.cell 3
      have d3 := k4'.cell 3
      have f3 := k4'.free 3
      have g4 := k5.cell 4
      have d4 := k4'.cell 4
      have f4 := k4'.free 4
      have g5 := k5.cell 5
      have d5 := k4'.cell 5
      have f5 := k4'.free 5
      have g6 := k5.cell 6
      have d6 := k4'.cell 6
      have f6 := k4'.free 6
      simp only [List.getElem?_cons_zero, List.getElem?_cons_succ] at g0 d0 g1 d1 g2 d2 g3 d3 g4 d4 g5 d5 g6 d6
      clear k5 k4'
      go_wp2_with fail
      have h9 := (((((((HA3.out.setBk [_] 0 (.int .i64 0)).setBk [_] 1 (.bool k1)).setBk [_] 2 (.bool k2)).setBk [_] 3 (.bool k4)).setBk [_] 4 (.bool k8)).setBk [_] 5 (.bool k16)).setBk [_] 6 (.slice (some ⟨r6, 0, none⟩) 1 3))
      simp only [List.set_cons_succ, List.set_cons_zero, List.cons_append, List.nil_append] at h9
      have k9 : Blk _ r4 _ _ := h9.tail.head
      have e0 := k9.cell 0
      have e1 := k9.cell 1
      have e2 := k9.cell 2
      have e3 := k9.cell 3
      have e4 := k9.cell 4
      have e5 := k9.cell 5
      have e6 := k9.cell 6
      simp only [List.getElem?_cons_zero, List.getElem?_cons_succ] at e0 e1 e2 e3 e4 e5 e6
      refine bodyPost_ret (v := .agg #[.int .i64 0, .bool k1, .bool k2, .bool k4, .bool k8, .bool k16, (.slice (some ⟨r6, 0, none⟩) 1 3)]) (by simp [results, Tryz.results25, go_sem, e0, e1, e2, e3, e4, e5, e6]) rfl ?_
      have hs := h9.P (sl 9 1 (.slice (some ⟨r6, 0, none⟩) 3 3) 3 [.string ⟨#[99, 108, 97, 115, 115]⟩, .string ⟨#[105, 100]⟩, .string ⟨#[116, 105, 116, 108, 101]⟩]) (by simp)
      exact ⟨.slice (some ⟨r6, 0, none⟩) 1 3, by simp only [encW, wbP, hT, HK1.out, HK2.out, HK4.out, HK8.out, HK16.out] <;> rfl, by rw [HM.out]; exact own_trunc hs (i := 1) (by omega), (fun k hk => by cases hk; rw [hr2]; exact hr6), by rw [hr2]; exact h9.below⟩
    · have HM := Lib.hid (show fltN (fl % 4) = fltN 2 from by rw [show fl % 4 = 2 from by omega])
      have hA6 := HA2.out.newSlA w2.heap.size rfl 9 1 3 [.string ⟨#[99, 108, 97, 115, 115]⟩, .string ⟨#[105, 100]⟩, .string ⟨#[116, 105, 116, 108, 101]⟩] (by rfl) (by omega)
      have hr6 := HA2.out.below.size
      rw [hr2] at hr6
      generalize hr6e : w2.heap.size = r6 at *
      have k2 : Blk _ _ _ _ := hA6.tail.tail.tail.head
      have k5 : Blk _ _ _ _ := hA6.tail.head
      have p3 := k2.cell 3
      have c56 := k5.cell 6
      have f56 := k5.free 6
      simp only [List.getElem?_cons_zero, List.getElem?_cons_succ] at p3 c56
      have HA7 := Lib.hid (hA6.setBk [_] 6 (.slice (some ⟨r6, 0, none⟩) 2 3))
      clear hA6 k2 k5 p1 h5 h4' h2'
      go_upto_region 6 with fail
      have HA3 := Lib.hid ((show All r2 w ([sl 9 1 (.slice (some ⟨r6, 0, none⟩) 3 3) 3 [.string ⟨#[99, 108, 97, 115, 115]⟩, .string ⟨#[105, 100]⟩, .string ⟨#[116, 105, 116, 108, 101]⟩]] ++ [bk r5 [.int .i64 0, .bool k1, .bool k2, .bool k4, .bool k8, .bool k16, .slice (some ⟨r6, 0, none⟩) 2 3] 58, _, _]) _ from HA7.out).perm List.perm_append_comm)
      clear HA7 p3 c56 f56
      generalize (w2.alloc (.cells #[.string ⟨#[99, 108, 97, 115, 115]⟩, .string ⟨#[105, 100]⟩, .string ⟨#[116, 105, 116, 108, 101]⟩] 9)).setCell ⟨r5, 6, none⟩ (.slice (some ⟨r6, 0, none⟩) 2 3) = w9 at *

      have k5 : Blk w9 _ _ _ := HA3.out.head
      have k4' : Blk w9 _ _ _ := HA3.out.tail.head
      have g0 := k5.cell 0
      have d0 := k4'.cell 0
      have f0 := k4'.free 0
      have g1 := k5.cell 1
      have d1 := k4'.cell 1
      have f1 := k4'.free 1
      have g2 := k5.cell 2
      have d2 := k4'.cell 2
      have f2 := k4'.free 2
      have g3 := k5.cell 3
      have d3 := k4'.cell 3
      have f3 := k4'.free 3
      have g4 := k5.cell 4
      have d4 := k4'.cell 4
      have f4 := k4'.free 4
      have g5 := k5.cell 5
      have d5 := k4'.cell 5
      have f5 := k4'.free 5
      have g6 := k5.cell 6
      have d6 := k4'.cell 6
      have f6 := k4'.free 6
      simp only [List.getElem?_cons_zero, List.getElem?_cons_succ] at g0 d0 g1 d1 g2 d2 g3 d3 g4 d4 g5 d5 g6 d6
      clear k5 k4'
      go_wp2_with fail
      have h9 := (((((((HA3.out.setBk [_] 0 (.int .i64 0)).setBk [_] 1 (.bool k1)).setBk [_] 2 (.bool k2)).setBk [_] 3 (.bool k4)).setBk [_] 4 (.bool k8)).setBk [_] 5 (.bool k16)).setBk [_] 6 (.slice (some ⟨r6, 0, none⟩) 2 3))
      simp only [List.set_cons_succ, List.set_cons_zero, List.cons_append, List.nil_append] at h9
      have k9 : Blk _ r4 _ _ := h9.tail.head
      have e0 := k9.cell 0
      have e1 := k9.cell 1
      have e2 := k9.cell 2
      have e3 := k9.cell 3
      have e4 := k9.cell 4
      have e5 := k9.cell 5
      have e6 := k9.cell 6
      simp only [List.getElem?_cons_zero, List.getElem?_cons_succ] at e0 e1 e2 e3 e4 e5 e6
      refine bodyPost_ret (v := .agg #[.int .i64 0, .bool k1, .bool k2, .bool k4, .bool k8, .bool k16, (.slice (some ⟨r6, 0, none⟩) 2 3)]) (by simp [results, Tryz.results25, go_sem, e0, e1, e2, e3, e4, e5, e6]) rfl ?_
      have hs := h9.P (sl 9 1 (.slice (some ⟨r6, 0, none⟩) 3 3) 3 [.string ⟨#[99, 108, 97, 115, 115]⟩, .string ⟨#[105, 100]⟩, .string ⟨#[116, 105, 116, 108, 101]⟩]) (by simp)
      exact ⟨.slice (some ⟨r6, 0, none⟩) 2 3, by simp only [encW, wbP, hT, HK1.out, HK2.out, HK4.out, HK8.out, HK16.out] <;> rfl, by rw [HM.out]; exact own_trunc hs (i := 2) (by omega), (fun k hk => by cases hk; rw [hr2]; exact hr6), by rw [hr2]; exact h9.below⟩
    · have HM := Lib.hid (show fltN (fl % 4) = fltN 3 from by rw [show fl % 4 = 3 from by omega])
      have hA6 := HA2.out.newSlA w2.heap.size rfl 9 1 3 [.string ⟨#[99, 108, 97, 115, 115]⟩, .string ⟨#[105, 100]⟩, .string ⟨#[116, 105, 116, 108, 101]⟩] (by rfl) (by omega)
      have hr6 := HA2.out.below.size
      rw [hr2] at hr6
      generalize hr6e : w2.heap.size = r6 at *
      have k2 : Blk _ _ _ _ := hA6.tail.tail.tail.head
      have k5 : Blk _ _ _ _ := hA6.tail.head
      have p3 := k2.cell 3
      have c56 := k5.cell 6
      have f56 := k5.free 6
      simp only [List.getElem?_cons_zero, List.getElem?_cons_succ] at p3 c56
      have HA7 := Lib.hid (hA6.setBk [_] 6 (.slice (some ⟨r6, 0, none⟩) 3 3))
      clear hA6 k2 k5 p1 h5 h4' h2'
      go_upto_region 6 with fail
      have HA3 := Lib.hid ((show All r2 w ([sl 9 1 (.slice (some ⟨r6, 0, none⟩) 3 3) 3 [.string ⟨#[99, 108, 97, 115, 115]⟩, .string ⟨#[105, 100]⟩, .string ⟨#[116, 105, 116, 108, 101]⟩]] ++ [bk r5 [.int .i64 0, .bool k1, .bool k2, .bool k4, .bool k8, .bool k16, .slice (some ⟨r6, 0, none⟩) 3 3] 58, _, _]) _ from HA7.out).perm List.perm_append_comm)
      clear HA7 p3 c56 f56
      generalize (w2.alloc (.cells #[.string ⟨#[99, 108, 97, 115, 115]⟩, .string ⟨#[105, 100]⟩, .string ⟨#[116, 105, 116, 108, 101]⟩] 9)).setCell ⟨r5, 6, none⟩ (.slice (some ⟨r6, 0, none⟩) 3 3) = w9 at *

      have k5 : Blk w9 _ _ _ := HA3.out.head
      have k4' : Blk w9 _ _ _ := HA3.out.tail.head
      have g0 := k5.cell 0
      have d0 := k4'.cell 0
      have f0 := k4'.free 0
      have g1 := k5.cell 1
      have d1 := k4'.cell 1
      have f1 := k4'.free 1
      have g2 := k5.cell 2
      have d2 := k4'.cell 2
      have f2 := k4'.free 2
      have g3 := k5.cell 3
      have d3 := k4'.cell 3
      have f3 := k4'.free 3
      have g4 := k5.cell 4
      have d4 := k4'.cell 4
      have f4 := k4'.free 4
      have g5 := k5.cell 5
      have d5 := k4'.cell 5
      have f5 := k4'.free 5
      have g6 := k5.cell 6
      have d6 := k4'.cell 6
      have f6 := k4'.free 6
      simp only [List.getElem?_cons_zero, List.getElem?_cons_succ] at g0 d0 g1 d1 g2 d2 g3 d3 g4 d4 g5 d5 g6 d6
      clear k5 k4'
      go_wp2_with fail
      have h9 := (((((((HA3.out.setBk [_] 0 (.int .i64 0)).setBk [_] 1 (.bool k1)).setBk [_] 2 (.bool k2)).setBk [_] 3 (.bool k4)).setBk [_] 4 (.bool k8)).setBk [_] 5 (.bool k16)).setBk [_] 6 (.slice (some ⟨r6, 0, none⟩) 3 3))
      simp only [List.set_cons_succ, List.set_cons_zero, List.cons_append, List.nil_append] at h9
      have k9 : Blk _ r4 _ _ := h9.tail.head
      have e0 := k9.cell 0
      have e1 := k9.cell 1
      have e2 := k9.cell 2
      have e3 := k9.cell 3
      have e4 := k9.cell 4
      have e5 := k9.cell 5
      have e6 := k9.cell 6
      simp only [List.getElem?_cons_zero, List.getElem?_cons_succ] at e0 e1 e2 e3 e4 e5 e6
      refine bodyPost_ret (v := .agg #[.int .i64 0, .bool k1, .bool k2, .bool k4, .bool k8, .bool k16, (.slice (some ⟨r6, 0, none⟩) 3 3)]) (by simp [results, Tryz.results25, go_sem, e0, e1, e2, e3, e4, e5, e6]) rfl ?_
      have hs := h9.P (sl 9 1 (.slice (some ⟨r6, 0, none⟩) 3 3) 3 [.string ⟨#[99, 108, 97, 115, 115]⟩, .string ⟨#[105, 100]⟩, .string ⟨#[116, 105, 116, 108, 101]⟩]) (by simp)
      exact ⟨.slice (some ⟨r6, 0, none⟩) 3 3, by simp only [encW, wbP, hT, HK1.out, HK2.out, HK4.out, HK8.out, HK16.out] <;> rfl, by rw [HM.out]; exact own_trunc hs (i := 3) (by omega), (fun k hk => by cases hk; rw [hr2]; exact hr6), by rw [hr2]; exact h9.below⟩
  · have hpos : 0 < l.length := List.length_pos_iff.2 hz
    obtain ⟨lg, lc', he, _⟩ := own_some HL.out hpos
    simp only [Value.slice.injEq] at he
    obtain ⟨rfl, _, rfl⟩ := he
    have hm : tg % l.length < l.length := Nat.mod_lt _ hpos
    have q := (own_below HL.out (by rw [hr2]; exact HA2.out.below)).cellAt (tg % l.length) (by omega)
    rw [hcells, List.getElem?_map, List.getElem?_eq_getElem hm] at q
    simp only [Option.map_some] at q
    have hT : tgP l tg = l[tg % l.length] := by unfold tgP; rw [List.getD_eq_getElem?_getD, List.getElem?_eq_getElem hm]; rfl
    generalize l[tg % l.length] = T at *
    have p1 := h2'.cell 1
    have c50 := h5.cell 0
    have f5 := h5.free 0
    simp only [List.getElem?_cons_zero, List.getElem?_cons_succ] at p1 c50
    have hz2 : ((l.length : Int) == 0) = false := by simpa using hz
    go_upto_region 4 with fail
    have HA3 := Lib.hid (HA2.out.setBk [] 0 (.int .i64 T))
    clear HA2 p1 c50 f5 q h5 h4' h2'
    generalize w2.setCell ⟨r5, 0, none⟩ (.int .i64 T) = w3 at *
    have HA2 : Hid (All r2 w [bk r5 [.int .i64 T, .bool k1, .bool k2, .bool k4, .bool k8, .bool k16, .slice none 0 0] 58, _, _] w3) := HA3
    clear HA3
    have h5 : Blk _ _ _ _ := HA2.out.head
    have h4' : Blk _ _ _ _ := HA2.out.tail.head
    have h2' : Blk _ _ _ _ := HA2.out.tail.tail.head
    have p1 := h2'.cell 1
    have p3 := h2'.cell 3
    simp only [List.getElem?_cons_zero, List.getElem?_cons_succ] at p1 p3
    rcases hm4 with hm4 | hm4 | hm4 | hm4
    · have HM := Lib.hid (show fltN (fl % 4) = fltN 0 from by rw [show fl % 4 = 0 from by omega])
      go_upto_region 6 with fail
      have HA3 := HA2
      clear p1 p3 h5 h4' h2'

      have k5 : Blk w3 _ _ _ := HA3.out.head
      have k4' : Blk w3 _ _ _ := HA3.out.tail.head
      have g0 := k5.cell 0
      have d0 := k4'.cell 0
      have f0 := k4'.free 0
      have g1 := k5.cell 1
      have d1 := k4'.cell 1
      have f1 := k4'.free 1
      have g2 := k5.cell 2
      have d2 := k4'.cell 2
      have f2 := k4'.free 2
      have g3 := k5.cell 3
      have d3 := k4'.cell 3
      have f3 := k4'.free 3
      have g4 := k5.cell 4
      have d4 := k4'.cell 4
      have f4 := k4'.free 4
      have g5 := k5.cell 5
      have d5 := k4'.cell 5
      have f5 := k4'.free 5
      have g6 := k5.cell 6
      have d6 := k4'.cell 6
      have f6 := k4'.free 6
      simp only [List.getElem?_cons_zero, List.getElem?_cons_succ] at g0 d0 g1 d1 g2 d2 g3 d3 g4 d4 g5 d5 g6 d6
      clear k5 k4'
      go_wp2_with fail
      have h9 := (((((((HA3.out.setBk [_] 0 (.int .i64 T)).setBk [_] 1 (.bool k1)).setBk [_] 2 (.bool k2)).setBk [_] 3 (.bool k4)).setBk [_] 4 (.bool k8)).setBk [_] 5 (.bool k16)).setBk [_] 6 (.slice none 0 0))
      simp only [List.set_cons_succ, List.set_cons_zero, List.cons_append, List.nil_append] at h9
      have k9 : Blk _ r4 _ _ := h9.tail.head
      have e0 := k9.cell 0
      have e1 := k9.cell 1
      have e2 := k9.cell 2
      have e3 := k9.cell 3
      have e4 := k9.cell 4
      have e5 := k9.cell 5
      have e6 := k9.cell 6
      simp only [List.getElem?_cons_zero, List.getElem?_cons_succ] at e0 e1 e2 e3 e4 e5 e6
      refine bodyPost_ret (v := .agg #[.int .i64 T, .bool k1, .bool k2, .bool k4, .bool k8, .bool k16, (.slice none 0 0)]) (by simp [results, Tryz.results25, go_sem, e0, e1, e2, e3, e4, e5, e6]) rfl ?_
      exact ⟨.slice none 0 0, by simp only [encW, wbP, hT, HK1.out, HK2.out, HK4.out, HK8.out, HK16.out] <;> rfl, by rw [HM.out]; exact World.ownsRow_nil _ _ _ _, (fun k hk => by cases hk), by rw [hr2]; exact h9.below⟩
    · have HM := Lib.hid (show fltN (fl % 4) = fltN 1 from by rw [show fl % 4 = 1 from by omega])
      have hA6 := HA2.out.newSlA w3.heap.size rfl 9 1 3 [.string ⟨#[99, 108, 97, 115, 115]⟩, .string ⟨#[105, 100]⟩, .string ⟨#[116, 105, 116, 108, 101]⟩] (by rfl) (by omega)
      have hr6 := HA2.out.below.size
      rw [hr2] at hr6
      generalize hr6e : w3.heap.size = r6 at *
      have k2 : Blk _ _ _ _ := hA6.tail.tail.tail.head
      have k5 : Blk _ _ _ _ := hA6.tail.head
      have p3 := k2.cell 3
      have c56 := k5.cell 6
      have f56 := k5.free 6
      simp only [List.getElem?_cons_zero, List.getElem?_cons_succ] at p3 c56
      have HA7 := Lib.hid (hA6.setBk [_] 6 (.slice (some ⟨r6, 0, none⟩) 1 3))
      clear hA6 k2 k5 p1 h5 h4' h2'
      go_upto_region 6 with fail
      have HA3 := Lib.hid ((show All r2 w ([sl 9 1 (.slice (some ⟨r6, 0, none⟩) 3 3) 3 [.string ⟨#[99, 108, 97, 115, 115]⟩, .string ⟨#[105, 100]⟩, .string ⟨#[116, 105, 116, 108, 101]⟩]] ++ [bk r5 [.int .i64 T, .bool k1, .bool k2, .bool k4, .bool k8, .bool k16, .slice (some ⟨r6, 0, none⟩) 1 3] 58, _, _]) _ from HA7.out).perm List.perm_append_comm)
      clear HA7 p3 c56 f56
      generalize (w3.alloc (.cells #[.string ⟨#[99, 108, 97, 115, 115]⟩, .string ⟨#[105, 100]⟩, .string ⟨#[116, 105, 116, 108, 101]⟩] 9)).setCell ⟨r5, 6, none⟩ (.slice (some ⟨r6, 0, none⟩) 1 3) = w9 at *

      have k5 : Blk w9 _ _ _ := HA3.out.head
      have k4' : Blk w9 _ _ _ := HA3.out.tail.head
      have g0 := k5.cell 0
      have d0 := k4'.cell 0
      have f0 := k4'.free 0
      have g1 := k5.cell 1
      have d1 := k4'.cell 1
      have f1 := k4'.free 1
      have g2 := k5.cell 2
      have d2 := k4'.cell 2
      have f2 := k4'.free 2
      have g3 := k5.cell 3
      have d3 := k4'.cell 3
      have f3 := k4'.free 3
      have g4 := k5.cell 4
      have d4 := k4'.cell 4
      have f4 := k4'.free 4
      have g5 := k5.cell 5
      have d5 := k4'.cell 5
      have f5 := k4'.free 5
      have g6 := k5.cell 6
      have d6 := k4'.cell 6
      have f6 := k4'.free 6
      simp only [List.getElem?_cons_zero, List.getElem?_cons_succ] at g0 d0 g1 d1 g2 d2 g3 d3 g4 d4 g5 d5 g6 d6
      clear k5 k4'
      go_wp2_with fail
      have h9 := (((((((HA3.out.setBk [_] 0 (.int .i64 T)).setBk [_] 1 (.bool k1)).setBk [_] 2 (.bool k2)).setBk [_] 3 (.bool k4)).setBk [_] 4 (.bool k8)).setBk [_] 5 (.bool k16)).setBk [_] 6 (.slice (some ⟨r6, 0, none⟩) 1 3))
      simp only [List.set_cons_succ, List.set_cons_zero, List.cons_append, List.nil_append] at h9
      have k9 : Blk _ r4 _ _ := h9.tail.head
      have e0 := k9.cell 0
      have e1 := k9.cell 1
      have e2 := k9.cell 2
      have e3 := k9.cell 3
      have e4 := k9.cell 4
      have e5 := k9.cell 5
      have e6 := k9.cell 6
      simp only [List.getElem?_cons_zero, List.getElem?_cons_succ] at e0 e1 e2 e3 e4 e5 e6
      refine bodyPost_ret (v := .agg #[.int .i64 T, .bool k1, .bool k2, .bool k4, .bool k8, .bool k16, (.slice (some ⟨r6, 0, none⟩) 1 3)]) (by simp [results, Tryz.results25, go_sem, e0, e1, e2, e3, e4, e5, e6]) rfl ?_
      have hs := h9.P (sl 9 1 (.slice (some ⟨r6, 0, none⟩) 3 3) 3 [.string ⟨#[99, 108, 97, 115, 115]⟩, .string ⟨#[105, 100]⟩, .string ⟨#[116, 105, 116, 108, 101]⟩]) (by simp)
      exact ⟨.slice (some ⟨r6, 0, none⟩) 1 3, by simp only [encW, wbP, hT, HK1.out, HK2.out, HK4.out, HK8.out, HK16.out] <;> rfl, by rw [HM.out]; exact own_trunc hs (i := 1) (by omega), (fun k hk => by cases hk; rw [hr2]; exact hr6), by rw [hr2]; exact h9.below⟩
    · have HM := Lib.hid (show fltN (fl % 4) = fltN 2 from by rw [show fl % 4 = 2 from by omega])
      have hA6 := HA2.out.newSlA w3.heap.size rfl 9 1 3 [.string ⟨#[99, 108, 97, 115, 115]⟩, .string ⟨#[105, 100]⟩, .string ⟨#[116, 105, 116, 108, 101]⟩] (by rfl) (by omega)
      have hr6 := HA2.out.below.size
      rw [hr2] at hr6
      generalize hr6e : w3.heap.size = r6 at *
      have k2 : Blk _ _ _ _ := hA6.tail.tail.tail.head
      have k5 : Blk _ _ _ _ := hA6.tail.head
      have p3 := k2.cell 3
      have c56 := k5.cell 6
      have f56 := k5.free 6
      simp only [List.getElem?_cons_zero, List.getElem?_cons_succ] at p3 c56
      have HA7 := Lib.hid (hA6.setBk [_] 6 (.slice (some ⟨r6, 0, none⟩) 2 3))
      clear hA6 k2 k5 p1 h5 h4' h2'
      go_upto_region 6 with fail
      have HA3 := Lib.hid ((show All r2 w ([sl 9 1 (.slice (some ⟨r6, 0, none⟩) 3 3) 3 [.string ⟨#[99, 108, 97, 115, 115]⟩, .string ⟨#[105, 100]⟩, .string ⟨#[116, 105, 116, 108, 101]⟩]] ++ [bk r5 [.int .i64 T, .bool k1, .bool k2, .bool k4, .bool k8, .bool k16, .slice (some ⟨r6, 0, none⟩) 2 3] 58, _, _]) _ from HA7.out).perm List.perm_append_comm)
      clear HA7 p3 c56 f56
      generalize (w3.alloc (.cells #[.string ⟨#[99, 108, 97, 115, 115]⟩, .string ⟨#[105, 100]⟩, .string ⟨#[116, 105, 116, 108, 101]⟩] 9)).setCell ⟨r5, 6, none⟩ (.slice (some ⟨r6, 0, none⟩) 2 3) = w9 at *

      have k5 : Blk w9 _ _ _ := HA3.out.head
      have k4' : Blk w9 _ _ _ := HA3.out.tail.head
      have g0 := k5.cell 0
      have d0 := k4'.cell 0
      have f0 := k4'.free 0
      have g1 := k5.cell 1
      have d1 := k4'.cell 1
      have f1 := k4'.free 1
      have g2 := k5.cell 2
      have d2 := k4'.cell 2
      have f2 := k4'.free 2
      have g3 := k5.cell 3
      have d3 := k4'.cell 3
      have f3 := k4'.free 3
      have g4 := k5.cell 4
      have d4 := k4'.cell 4
      have f4 := k4'.free 4
      have g5 := k5.cell 5
      have d5 := k4'.cell 5
      have f5 := k4'.free 5
      have g6 := k5.cell 6
      have d6 := k4'.cell 6
      have f6 := k4'.free 6
      simp only [List.getElem?_cons_zero, List.getElem?_cons_succ] at g0 d0 g1 d1 g2 d2 g3 d3 g4 d4 g5 d5 g6 d6
      clear k5 k4'
      go_wp2_with fail
      have h9 := (((((((HA3.out.setBk [_] 0 (.int .i64 T)).setBk [_] 1 (.bool k1)).setBk [_] 2 (.bool k2)).setBk [_] 3 (.bool k4)).setBk [_] 4 (.bool k8)).setBk [_] 5 (.bool k16)).setBk [_] 6 (.slice (some ⟨r6, 0, none⟩) 2 3))
      simp only [List.set_cons_succ, List.set_cons_zero, List.cons_append, List.nil_append] at h9
      have k9 : Blk _ r4 _ _ := h9.tail.head
      have e0 := k9.cell 0
      have e1 := k9.cell 1
      have e2 := k9.cell 2
      have e3 := k9.cell 3
      have e4 := k9.cell 4
      have e5 := k9.cell 5
      have e6 := k9.cell 6
      simp only [List.getElem?_cons_zero, List.getElem?_cons_succ] at e0 e1 e2 e3 e4 e5 e6
      refine bodyPost_ret (v := .agg #[.int .i64 T, .bool k1, .bool k2, .bool k4, .bool k8, .bool k16, (.slice (some ⟨r6, 0, none⟩) 2 3)]) (by simp [results, Tryz.results25, go_sem, e0, e1, e2, e3, e4, e5, e6]) rfl ?_
      have hs := h9.P (sl 9 1 (.slice (some ⟨r6, 0, none⟩) 3 3) 3 [.string ⟨#[99, 108, 97, 115, 115]⟩, .string ⟨#[105, 100]⟩, .string ⟨#[116, 105, 116, 108, 101]⟩]) (by simp)
      exact ⟨.slice (some ⟨r6, 0, none⟩) 2 3, by simp only [encW, wbP, hT, HK1.out, HK2.out, HK4.out, HK8.out, HK16.out] <;> rfl, by rw [HM.out]; exact own_trunc hs (i := 2) (by omega), (fun k hk => by cases hk; rw [hr2]; exact hr6), by rw [hr2]; exact h9.below⟩
    · have HM := Lib.hid (show fltN (fl % 4) = fltN 3 from by rw [show fl % 4 = 3 from by omega])
      have hA6 := HA2.out.newSlA w3.heap.size rfl 9 1 3 [.string ⟨#[99, 108, 97, 115, 115]⟩, .string ⟨#[105, 100]⟩, .string ⟨#[116, 105, 116, 108, 101]⟩] (by rfl) (by omega)
      have hr6 := HA2.out.below.size
      rw [hr2] at hr6
      generalize hr6e : w3.heap.size = r6 at *
      have k2 : Blk _ _ _ _ := hA6.tail.tail.tail.head
      have k5 : Blk _ _ _ _ := hA6.tail.head
      have p3 := k2.cell 3
      have c56 := k5.cell 6
      have f56 := k5.free 6
      simp only [List.getElem?_cons_zero, List.getElem?_cons_succ] at p3 c56
      have HA7 := Lib.hid (hA6.setBk [_] 6 (.slice (some ⟨r6, 0, none⟩) 3 3))
      clear hA6 k2 k5 p1 h5 h4' h2'
      go_upto_region 6 with fail
      have HA3 := Lib.hid ((show All r2 w ([sl 9 1 (.slice (some ⟨r6, 0, none⟩) 3 3) 3 [.string ⟨#[99, 108, 97, 115, 115]⟩, .string ⟨#[105, 100]⟩, .string ⟨#[116, 105, 116, 108, 101]⟩]] ++ [bk r5 [.int .i64 T, .bool k1, .bool k2, .bool k4, .bool k8, .bool k16, .slice (some ⟨r6, 0, none⟩) 3 3] 58, _, _]) _ from HA7.out).perm List.perm_append_comm)
      clear HA7 p3 c56 f56
      generalize (w3.alloc (.cells #[.string ⟨#[99, 108, 97, 115, 115]⟩, .string ⟨#[105, 100]⟩, .string ⟨#[116, 105, 116, 108, 101]⟩] 9)).setCell ⟨r5, 6, none⟩ (.slice (some ⟨r6, 0, none⟩) 3 3) = w9 at *

      have k5 : Blk w9 _ _ _ := HA3.out.head
      have k4' : Blk w9 _ _ _ := HA3.out.tail.head
      have g0 := k5.cell 0
      have d0 := k4'.cell 0
      have f0 := k4'.free 0
      have g1 := k5.cell 1
      have d1 := k4'.cell 1
      have f1 := k4'.free 1
      have g2 := k5.cell 2
      have d2 := k4'.cell 2
      have f2 := k4'.free 2
      have g3 := k5.cell 3
      have d3 := k4'.cell 3
      have f3 := k4'.free 3
      have g4 := k5.cell 4
      have d4 := k4'.cell 4
      have f4 := k4'.free 4
      have g5 := k5.cell 5
      have d5 := k4'.cell 5
      have f5 := k4'.free 5
      have g6 := k5.cell 6
      have d6 := k4'.cell 6
      have f6 := k4'.free 6
      simp only [List.getElem?_cons_zero, List.getElem?_cons_succ] at g0 d0 g1 d1 g2 d2 g3 d3 g4 d4 g5 d5 g6 d6
      clear k5 k4'
      go_wp2_with fail
      have h9 := (((((((HA3.out.setBk [_] 0 (.int .i64 T)).setBk [_] 1 (.bool k1)).setBk [_] 2 (.bool k2)).setBk [_] 3 (.bool k4)).setBk [_] 4 (.bool k8)).setBk [_] 5 (.bool k16)).setBk [_] 6 (.slice (some ⟨r6, 0, none⟩) 3 3))
      simp only [List.set_cons_succ, List.set_cons_zero, List.cons_append, List.nil_append] at h9
      have k9 : Blk _ r4 _ _ := h9.tail.head
      have e0 := k9.cell 0
      have e1 := k9.cell 1
      have e2 := k9.cell 2
      have e3 := k9.cell 3
      have e4 := k9.cell 4
      have e5 := k9.cell 5
      have e6 := k9.cell 6
      simp only [List.getElem?_cons_zero, List.getElem?_cons_succ] at e0 e1 e2 e3 e4 e5 e6
      refine bodyPost_ret (v := .agg #[.int .i64 T, .bool k1, .bool k2, .bool k4, .bool k8, .bool k16, (.slice (some ⟨r6, 0, none⟩) 3 3)]) (by simp [results, Tryz.results25, go_sem, e0, e1, e2, e3, e4, e5, e6]) rfl ?_
      have hs := h9.P (sl 9 1 (.slice (some ⟨r6, 0, none⟩) 3 3) 3 [.string ⟨#[99, 108, 97, 115, 115]⟩, .string ⟨#[105, 100]⟩, .string ⟨#[116, 105, 116, 108, 101]⟩]) (by simp)
      exact ⟨.slice (some ⟨r6, 0, none⟩) 3 3, by simp only [encW, wbP, hT, HK1.out, HK2.out, HK4.out, HK8.out, HK16.out] <;> rfl, by rw [HM.out]; exact own_trunc hs (i := 3) (by omega), (fun k hk => by cases hk; rw [hr2]; exact hr6), by rw [hr2]; exact h9.below⟩
end Go.Proofs.YtfdofkokiaapoaaGreatDoor.W
end
section
/- Watched, of the reference: the watches after a further one. -/
namespace Go.Proofs.YtfdofkokiaapoaaGreatDoor.W
open Go.RowKit
set_option linter.unusedVariables false
set_option linter.unusedSimpArgs false

def repW (x y : Wt) : Wt := if y.target = x.target then x else y
def anyT (l : List Wt) (t : Int) : Bool := l.any fun y => decide (y.target = t)
/-- the watches after a further one -/
def refW (l : List Wt) (x : Wt) : List Wt := l.map (repW x) ++ (if anyT l x.target = true then [] else [x])
theorem anyT_succ {l : List Wt} {k : Nat} {y : Wt} (t : Int) (h : l[k]? = some y) : anyT (l.take (k + 1)) t = (anyT (l.take k) t || decide (y.target = t)) := by
  unfold anyT
  rw [List.take_add_one, h]; simp
theorem repT_succ {l : List Wt} {k : Nat} {y : Wt} (x : Wt) (h : l[k]? = some y) : (l.take (k + 1)).map (repW x) = (l.take k).map (repW x) ++ [repW x y] := by
  rw [List.take_add_one, h]; simp
def WdR (w : World) (L : List Wt) (x : Wt) (ov tv iv : Value) (wr : World) : Prop :=
  ∃ k : Nat, k ≤ L.length ∧ iv = .int .i64 (k : Int) ∧ tv = .bool (anyT (L.take k) x.target) ∧ All w.heap.size w [sl 58 7 ov k (rows encW ((L.take k).map (repW x))), bk w.heap.size (encW x) 58] wr

set_option maxRecDepth 100000 in
set_option maxHeartbeats 8000000 in
theorem watched_ref {w : World} {v : Value} {L : List Wt} (x : Wt) (h : Own w 58 7 v L.length (rows encW L)) (hl : L.length ≤ 1000000) (hf : ∀ y ∈ L, ∃ a n c, y.fv = .slice a n c) (hx : ∃ a n c, x.fv = .slice a n c) :
    Calls Tryz.prog 27 #[v, .agg (encW x).toArray] w fun e w' => ∃ v', e = .returned v' ∧ All w.heap.size w [sl 58 7 v' (refW L x).length (rows encW (refW L x))] w' := by
  obtain ⟨va, vc, rfl⟩ := own_shape h
  obtain ⟨xa, xn, xc, hxv⟩ := hx
  have hA0 := ((All.start w).newBkA w.heap.size rfl (encW x) 58).nil 58 7
  have H := Lib.hid h
  have HF := Lib.hid hf
  have HA0 := Lib.hid hA0
  have HXv := Lib.hid hxv
  clear h hf hA0
  simp only [encW, hxv] at HA0 ⊢
  clear hxv
  go_enter Tryz.func27, Tryz.ntmps27
  go_wp2_with fail
  go_loopw [5, 6, 10] (fun ov tv iv wr => WdR w L x ov tv iv wr) (fun _ _ iv _ => L.length - (intOf iv).toNat)
  case atStart => exact ⟨0, Nat.zero_le _, rfl, rfl, by simp only [encW, HXv.out]; exact HA0.out⟩
  case round =>
    obtain ⟨k, hk, rfl, rfl, hA⟩ := hrel
    have ho : Own _ _ _ _ _ _ := hA.head
    obtain ⟨oa, oc, rfl⟩ := own_shape ho
    have hlo := own_len ho
    clear ho
    by_cases hkl : k < L.length
    · obtain ⟨y, hy⟩ : ∃ y, L[k]? = some y := ⟨_, List.getElem?_eq_getElem hkl⟩
      have hO := own_below H.out hA.below
      obtain ⟨vg, vc', he, _⟩ := own_some hO (by omega)
      simp only [Value.slice.injEq] at he
      obtain ⟨rfl, _, rfl⟩ := he
      obtain ⟨fa, fn, fc, hfv⟩ := HF.out y (List.mem_of_getElem? hy)
      have hq : ∀ (wx : World) (hb : Below wr.heap.size wr wx) j, j < 7 → wx.cell? ⟨vg, k * 7 + j, none⟩ = (encW y)[j]? := fun wx hb j hj => by
        rw [(own_below hO hb).cellAt (k * 7 + j) (by omega)]
        exact rows_at (enc := encW) encW_len L k y hy j hj
      have q0 := hq wr (Below.refl _ _) 0 (by omega)
      simp only [encW, List.getElem?_cons_zero, Nat.add_zero] at q0
      have kx : Blk _ _ _ _ := hA.tail.head
      have p0 := kx.cell 0
      simp only [encW, List.getElem?_cons_zero] at p0
      have HQ := Lib.hid hq
      have HA := Lib.hid hA
      have HAn := Lib.hid (anyT_succ x.target hy)
      have HRp := Lib.hid (repT_succ x hy)
      clear hA hO hy hq kx
      by_cases hyx : y.target = x.target
      · have e1 : (y.target == x.target) = true := by simpa using hyx
        have HRx := Lib.hid (show repW x y = x from if_pos hyx)
        have HDx := Lib.hid (decide_eq_true hyx)
        clear hyx
        go_wp2_with fail
        go_quiet (fail)
        have hA2 := HA.out.still (Below.drewN (Below.refl _ _) nq)
        have HA2 := Lib.hid hA2
        have kx : Blk _ _ _ _ := hA2.tail.head
        clear hA2 q0 p0
        generalize wr.drewN nq = w2 at *
        have p0 := kx.cell 0
        have p1 := kx.cell 1
        have p2 := kx.cell 2
        have p3 := kx.cell 3
        have p4 := kx.cell 4
        have p5 := kx.cell 5
        have p6 := kx.cell 6
        simp only [encW, HXv.out, List.getElem?_cons_zero, List.getElem?_cons_succ] at p0 p1 p2 p3 p4 p5 p6
        have H9 := Lib.hid (show All w.heap.size w ([] ++ sl 58 7 (.slice oa k oc) k (rows encW ((L.take k).map (repW x))) :: _) _ from HA2.out.alloc (.cells #[.int .i64 x.target, .bool x.kids, .bool x.attrs, .bool x.data, .bool x.sub, .bool x.old, .slice xa xn xc] 58))
        clear kx HA2
        go_wp2_with (at_builtin; refine wpList_append_all etW [] H9.out (own_at (n := 1) (size := 7) (Blk.new w2 [.int .i64 x.target, .bool x.kids, .bool x.attrs, .bool x.data, .bool x.sub, .bool x.old, .slice xa xn xc] 58) rfl (by omega)) (by intro u hu; simp at hu; rcases hu with rfl | rfl | rfl | rfl | rfl | rfl | rfl <;> rfl) (by omega) (by omega) rfl _ _ rfl rfl rfl ?_; intro v' w3 hA3; have HB := Lib.hid hA3; clear hA3)
        go_roundw
        case rel =>
          refine ⟨k + 1, by omega, by go_num, by rw [HAn.out, HDx.out, Bool.or_true], ?_⟩
          rw [HRp.out, HRx.out, rows_snoc]
          have h1 := HB.out
          simp only [List.nil_append] at h1
          have e1 : encW x = [.int .i64 x.target, .bool x.kids, .bool x.attrs, .bool x.data, .bool x.sub, .bool x.old, .slice xa xn xc] := by unfold encW; rw [HXv.out]
          rw [← e1] at h1
          exact h1
        case measure => simp [intOf]; omega
      · have e1 : (y.target == x.target) = false := by simpa using hyx
        have HRx := Lib.hid (show repW x y = y from if_neg hyx)
        have HDx := Lib.hid (decide_eq_false hyx)
        clear hyx
        go_wp2_with fail
        go_quiet (fail)
        have hA2 := HA.out.still (Below.drewN (Below.refl _ _) nq)
        have HA2 := Lib.hid hA2
        have hq2 := HQ.out (wr.drewN nq) (Below.drewN (Below.refl _ _) nq)
        clear hA2 q0 p0
        generalize wr.drewN nq = w2 at *
        have p0 := hq2 0 (by omega)
        have p1 := hq2 1 (by omega)
        have p2 := hq2 2 (by omega)
        have p3 := hq2 3 (by omega)
        have p4 := hq2 4 (by omega)
        have p5 := hq2 5 (by omega)
        have p6 := hq2 6 (by omega)
        simp only [encW, hfv, Nat.add_zero, List.getElem?_cons_zero, List.getElem?_cons_succ] at p0 p1 p2 p3 p4 p5 p6
        have H9 := Lib.hid (show All w.heap.size w ([] ++ sl 58 7 (.slice oa k oc) k (rows encW ((L.take k).map (repW x))) :: _) _ from HA2.out.alloc (.cells #[.int .i64 y.target, .bool y.kids, .bool y.attrs, .bool y.data, .bool y.sub, .bool y.old, .slice fa fn fc] 58))
        have HFv := Lib.hid hfv
        clear hq2 HA2 HQ hfv
        go_wp2_with (at_builtin; refine wpList_append_all etW [] H9.out (own_at (n := 1) (size := 7) (Blk.new w2 [.int .i64 y.target, .bool y.kids, .bool y.attrs, .bool y.data, .bool y.sub, .bool y.old, .slice fa fn fc] 58) rfl (by omega)) (by intro u hu; simp at hu; rcases hu with rfl | rfl | rfl | rfl | rfl | rfl | rfl <;> rfl) (by omega) (by omega) rfl _ _ rfl rfl rfl ?_; intro v' w3 hA3; have HB := Lib.hid hA3; clear hA3)
        go_roundw
        case rel =>
          refine ⟨k + 1, by omega, by go_num, by rw [HAn.out, HDx.out, Bool.or_false], ?_⟩
          rw [HRp.out, HRx.out, rows_snoc]
          have h1 := HB.out
          simp only [List.nil_append] at h1
          have e1 : encW y = [.int .i64 y.target, .bool y.kids, .bool y.attrs, .bool y.data, .bool y.sub, .bool y.old, .slice fa fn fc] := by unfold encW; rw [HFv.out]
          rw [← e1] at h1
          exact h1
        case measure => simp [intOf]; omega
    · obtain rfl : k = L.length := by omega
      rw [List.take_length] at hA ⊢
      have HA := Lib.hid hA
      generalize hb : anyT L x.target = b at *
      have HBb := Lib.hid hb
      have kx : Blk _ _ _ _ := hA.tail.head
      clear hA hb
      cases b
      · have p0 := kx.cell 0
        have p1 := kx.cell 1
        have p2 := kx.cell 2
        have p3 := kx.cell 3
        have p4 := kx.cell 4
        have p5 := kx.cell 5
        have p6 := kx.cell 6
        simp only [encW, HXv.out, List.getElem?_cons_zero, List.getElem?_cons_succ] at p0 p1 p2 p3 p4 p5 p6
        have H9 := Lib.hid (show All w.heap.size w ([] ++ sl 58 7 (.slice oa L.length oc) L.length (rows encW (L.map (repW x))) :: _) _ from HA.out.alloc (.cells #[.int .i64 x.target, .bool x.kids, .bool x.attrs, .bool x.data, .bool x.sub, .bool x.old, .slice xa xn xc] 58))
        clear kx HA
        go_wp2_with (at_builtin; refine wpList_append_all etW [] H9.out (own_at (n := 1) (size := 7) (Blk.new wr [.int .i64 x.target, .bool x.kids, .bool x.attrs, .bool x.data, .bool x.sub, .bool x.old, .slice xa xn xc] 58) rfl (by omega)) (by intro u hu; simp at hu; rcases hu with rfl | rfl | rfl | rfl | rfl | rfl | rfl <;> rfl) (by omega) (by omega) rfl _ _ rfl rfl rfl ?_; intro v' w3 hA3; have HB := Lib.hid hA3; clear hA3)
        go_ret
        refine ⟨v', rfl, ?_⟩
        have e0 : refW L x = L.map (repW x) ++ [x] := by unfold refW; rw [HBb.out]; rfl
        rw [e0, rows_snoc, List.length_append, List.length_map]
        have h1 := HB.out
        simp only [List.nil_append] at h1
        have e1 : encW x = [.int .i64 x.target, .bool x.kids, .bool x.attrs, .bool x.data, .bool x.sub, .bool x.old, .slice xa xn xc] := by unfold encW; rw [HXv.out]
        rw [← e1] at h1
        exact h1.sub (by simp)
      · clear kx
        go_wp2_with fail
        go_ret
        refine ⟨_, rfl, ?_⟩
        have e0 : refW L x = L.map (repW x) := by unfold refW; rw [HBb.out]; simp
        rw [e0, List.length_map]
        exact HA.out.sub (by simp)
end Go.Proofs.YtfdofkokiaapoaaGreatDoor.W
end
section
/- Watches added: program, law and reference say the same (plain); Watch of a kind. -/
namespace Go.Proofs.YtfdofkokiaapoaaGreatDoor.W
open Go.RowKit
set_option linter.unusedVariables false
set_option linter.unusedSimpArgs false

/-- a watch added, or put into the place of the one with its target -/
def addW : List Wb → Wb → List Wb
  | [], x => [x]
  | y :: l, x => if y.target = x.target then x :: l else y :: addW l x
theorem addW_new {x : Wb} : ∀ {l : List Wb}, (∀ y ∈ l, y.target ≠ x.target) → addW l x = l ++ [x]
  | [], _ => rfl
  | y :: l, h => by
    rw [addW, if_neg (h y (List.mem_cons_self ..)), addW_new (fun z hz => h z (List.mem_cons_of_mem _ hz))]
    rfl
theorem addW_rep {x y : Wb} {l2 : List Wb} (hy : y.target = x.target) : ∀ {l1 : List Wb}, (∀ z ∈ l1, z.target ≠ x.target) → addW (l1 ++ y :: l2) x = l1 ++ x :: l2
  | [], _ => by rw [List.nil_append, addW, if_pos hy]; rfl
  | z :: l, h => by
    rw [List.cons_append, addW, if_neg (h z (List.mem_cons_self ..)), addW_rep hy (fun z hz => h z (List.mem_cons_of_mem _ hz))]
    rfl
theorem addW_len (x : Wb) : ∀ l : List Wb, (addW l x).length ≤ l.length + 1
  | [] => by simp [addW]
  | y :: l => by
    have := addW_len x l
    rw [addW]
    split <;> simp <;> omega
theorem addW_mem (x : Wb) : ∀ {l : List Wb} {y : Wb}, y ∈ addW l x → y = x ∨ y ∈ l
  | [], y, h => by rw [addW, List.mem_singleton] at h; exact .inl h
  | z :: l, y, h => by
    rw [addW] at h
    split at h
    · rcases List.mem_cons.1 h with h | h
      · exact .inl h
      · exact .inr (List.mem_cons_of_mem _ h)
    · rcases List.mem_cons.1 h with h | h
      · exact .inr (h ▸ List.mem_cons_self ..)
      · exact (addW_mem x h).imp id (List.mem_cons_of_mem _)
/-- no two watches have one target -/
def Uni : List Wb → Prop
  | [] => True
  | y :: l => (∀ z ∈ l, z.target ≠ y.target) ∧ Uni l
theorem addW_uni (x : Wb) : ∀ {l : List Wb}, Uni l → Uni (addW l x)
  | [], _ => ⟨(fun z hz => by cases hz), trivial⟩
  | y :: l, h => by
    rw [addW]
    split
    · rename_i e
      exact ⟨fun z hz => e ▸ h.1 z hz, h.2⟩
    · rename_i e
      refine ⟨fun z hz => ?_, addW_uni x h.2⟩
      rcases addW_mem x hz with rfl | hz
      · exact fun e2 => e e2.symm
      · exact h.1 z hz
theorem repW_id {x : Wt} : ∀ {l : List Wt}, (∀ z ∈ l, z.target ≠ x.target) → l.map (repW x) = l
  | [], _ => rfl
  | y :: l, h => by
    rw [List.map_cons, repW_id (fun z hz => h z (List.mem_cons_of_mem _ hz))]
    unfold repW
    rw [if_neg (h y (List.mem_cons_self ..))]
theorem anyT_no {t : Int} {l : List Wt} (h : ∀ z ∈ l, z.target ≠ t) : anyT l t = false := by
  unfold anyT
  rw [List.any_eq_false]
  intro z hz
  simpa using h z hz
/-- the reference's watches are the program's -/
theorem refW_add (x : Wt) : ∀ {L : List Wt}, Uni (L.map Wt.bare) → (refW L x).map Wt.bare = addW (L.map Wt.bare) x.bare
  | [], _ => rfl
  | y :: l, h => by
    rw [List.map_cons, addW]
    by_cases e : y.target = x.target
    · have hno : ∀ z ∈ l, z.target ≠ x.target := fun z hz => e ▸ h.1 z.bare (List.mem_map_of_mem hz)
      have e1 : anyT (y :: l) x.target = true := by unfold anyT; rw [List.any_cons]; simp [e]
      have e2 : refW (y :: l) x = x :: l := by
        unfold refW
        rw [e1, List.map_cons, repW_id hno]
        unfold repW
        simp [e]
      rw [e2, if_pos (show y.bare.target = x.bare.target from e)]
      rfl
    · have e1 : anyT (y :: l) x.target = anyT l x.target := by unfold anyT; rw [List.any_cons]; simp [e]
      have e2 : refW (y :: l) x = y :: refW l x := by
        unfold refW
        rw [e1, List.map_cons]
        unfold repW
        simp [e]
      rw [e2, if_neg (show ¬ y.bare.target = x.bare.target from e), List.map_cons, refW_add x h.2]
theorem refW_mem {x y : Wt} {L : List Wt} (h : y ∈ refW L x) : y = x ∨ y ∈ L := by
  unfold refW at h
  rcases List.mem_append.1 h with h | h
  · obtain ⟨z, hz, rfl⟩ := List.mem_map.1 h
    unfold repW
    split
    · exact .inl rfl
    · exact .inr hz
  · split at h
    · cases h
    · exact .inl (List.mem_singleton.1 h)
theorem refW_len (x : Wt) (L : List Wt) : (refW L x).length ≤ L.length + 1 := by
  unfold refW
  rw [List.length_append, List.length_map]
  split <;> simp
theorem first_at {t : Int} : ∀ {l : List Wt}, (∀ y ∈ l, y.target ≠ t) ∨ ∃ l1 y l2, l = l1 ++ y :: l2 ∧ (∀ z ∈ l1, z.target ≠ t) ∧ y.target = t
  | [] => .inl fun y hy => by cases hy
  | y :: l => by
    by_cases e : y.target = t
    · exact .inr ⟨[], y, l, rfl, (fun z hz => by cases hz), e⟩
    · rcases first_at (t := t) (l := l) with h | ⟨l1, y', l2, rfl, h1, h2⟩
      · refine .inl fun z hz => ?_
        rcases List.mem_cons.1 hz with rfl | hz
        · exact e
        · exact h z hz
      · refine .inr ⟨y :: l1, y', l2, rfl, fun z hz => ?_, h2⟩
        rcases List.mem_cons.1 hz with rfl | hz
        · exact e
        · exact h1 z hz

/-- Watch -/
theorem watch_wt {B : Nat} {w0 w : World} {g zg zc : Nat} {nx : Int} {z1 z2 : List Oz} {z : Ov} {a b : Value} {fs : List Fl} {l : List Ob} (h : All B w0 (stF g (.slice (some ⟨zg, 0, none⟩) (z1 ++ (z, a, b) :: z2).length zc) nx (z1 ++ (z, a, b) :: z2) ++ (fo fs :: l)) w)
    (hn : ∀ y ∈ z1, y.1.id ≠ z.id) (hl : (z1 ++ (z, a, b) :: z2).length ≤ 1000000) (x : Wt) (hx : FltAt w x) (hxl : x.flt.length ≤ 100000) (hk : (x.kids || x.attrs || x.data) = true) (hs : z.ws.length ≤ 100000) (hf : ∀ y ∈ z.ws, ∃ a n c, y.fv = .slice a n c) :
    Calls Tryz.prog 26 #[.pointer (some ⟨g, 0, none⟩), .int .i64 z.id, .agg (encW x).toArray] w fun e w' => ∃ a' ws' fv', e = .returned (.int .i64 0) ∧ ws'.map Wt.bare = addW (z.ws.map Wt.bare) x.bare ∧ (∀ y ∈ ws', y = { x with fv := fv' } ∨ y ∈ z.ws) ∧
      All B w0 (stF g (.slice (some ⟨zg, 0, none⟩) (z1 ++ (z, a, b) :: z2).length zc) nx (z1 ++ ({ z with ws := ws' }, a', b) :: z2) ++ (fo ((fv', x.flt) :: fs) :: l)) w' := by
  rcases first_at (t := x.target) (l := z.ws) with hno | ⟨l1, y, l2, hws, hno, hy⟩
  · refine (watch_app h hn hl x hx hxl hk hs hf hno).mono ?_
    rintro e w' ⟨a', fv', rfl, hA⟩
    refine ⟨a', (z.watch { x with fv := fv' }).ws, fv', rfl, ?_, fun u hu => ?_, hA⟩
    · rw [show (z.watch { x with fv := fv' }).ws = z.ws ++ [{ x with fv := fv' }] from rfl, List.map_append, addW_new]
      · rfl
      · intro u hu
        obtain ⟨v, hv, rfl⟩ := List.mem_map.1 hu
        exact hno v hv
    · rcases List.mem_append.1 hu with hu | hu
      · exact .inr hu
      · exact .inl (List.mem_singleton.1 hu)
  · refine (watch_rep h hn hl x hx hxl hk hs hf hws hno hy).mono ?_
    rintro e w' ⟨fv', rfl, hA⟩
    refine ⟨a, l1 ++ { x with fv := fv' } :: l2, fv', rfl, ?_, fun u hu => ?_, hA⟩
    · rw [hws, List.map_append, List.map_append, List.map_cons, List.map_cons, addW_rep]
      · rfl
      · exact hy
      · intro u hu
        obtain ⟨v, hv, rfl⟩ := List.mem_map.1 hu
        exact hno v hv
    · rw [hws]
      simp only [List.mem_append, List.mem_cons] at hu ⊢
      rcases hu with hu | hu | hu
      · exact .inr (.inl hu)
      · exact .inl hu
      · exact .inr (.inr (.inr hu))

/-- a plan's watch, without its filter's place -/
def wbB (l : List Int) (p : Pl4) : Wb := (wbP l p (.slice none 0 0)).bare
theorem wbP_bare (l : List Int) (p : Pl4) (v : Value) : (wbP l p v).bare = wbB l p := rfl
def kinds (x : Wb) : Bool := x.kids || x.attrs || x.data
/-- the watches of an observer, after so many plans -/
def plW (l : List Int) (f : Nat → Pl4) (k : Nat) : Nat → List Wb
  | 0 => []
  | i + 1 => if (f i).ob % 3 = k ∧ kinds (wbB l (f i)) = true then addW (plW l f k i) (wbB l (f i)) else plW l f k i
theorem plW_uni (l : List Int) (f : Nat → Pl4) (k : Nat) : ∀ i, Uni (plW l f k i)
  | 0 => trivial
  | i + 1 => by
    rw [plW]
    split
    · exact addW_uni _ (plW_uni l f k i)
    · exact plW_uni l f k i
theorem plW_len (l : List Int) (f : Nat → Pl4) (k : Nat) : ∀ i, (plW l f k i).length ≤ i
  | 0 => Nat.le_refl _
  | i + 1 => by
    have := plW_len l f k i
    rw [plW]
    split
    · have := addW_len (wbB l (f i)) (plW l f k i)
      omega
    · omega
theorem plW_tg (l : List Int) (f : Nat → Pl4) (k : Nat) : ∀ i, ∀ y ∈ plW l f k i, ∃ j, y.target = tgP l j ∧ y.flt.length ≤ 3
  | 0, y, h => by cases h
  | i + 1, y, h => by
    rw [plW] at h
    split at h
    · rcases addW_mem _ h with rfl | h
      · exact ⟨(f i).tg, rfl, by unfold wbB wbP Wt.bare fltN; simp; omega⟩
      · exact plW_tg l f k i y h
    · exact plW_tg l f k i y h
end Go.Proofs.YtfdofkokiaapoaaGreatDoor.W
end
