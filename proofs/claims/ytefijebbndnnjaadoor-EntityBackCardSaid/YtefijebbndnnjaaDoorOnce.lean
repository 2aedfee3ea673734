/- sync.Once's slow road in this program: not yet done, the lock free (after the kit's worked example on sync.Once). -/
import Derived.Test.YtefijebbndnnjaaDoorBld
import Derived.Test.YtefijebbndnnjaaDoorMem
import Derived.Defers
import Derived.Laws.Pointers
import Derived.Laws.LoneSync
import Derived.RegionTactic
import Derived.RegionCalls
import Derived.ChangeAlike
set_option linter.unusedVariables false
set_option linter.unusedSimpArgs false
namespace Go.Proofs.YtefijebbndnnjaaDoor.W
open Go.RowKit

theorem r_disable (w : World) : (callFunc 74 #[]).run Tryd.prog w = .ok (.value (.tuple #[])) w := run_call_mark0 Tryd.func74 (by kernel_rfl) (by kernel_rfl) (by kernel_rfl) .disable (by kernel_rfl) w
theorem r_enable (w : World) : (callFunc 76 #[]).run Tryd.prog w = .ok (.value (.tuple #[])) w := run_call_mark0 Tryd.func76 (by kernel_rfl) (by kernel_rfl) (by kernel_rfl) .enable (by kernel_rfl) w
theorem r_acquire (a : Addr) (w : World) : (callFunc 77 #[.pointer (some a)]).run Tryd.prog w = .ok (.value (.tuple #[])) w := run_call_marked Tryd.func77 (by kernel_rfl) (by kernel_rfl) (by kernel_rfl) .acquire (by kernel_rfl) a w
theorem r_merge (a : Addr) (w : World) : (callFunc 79 #[.pointer (some a)]).run Tryd.prog w = .ok (.value (.tuple #[])) w := run_call_marked Tryd.func79 (by kernel_rfl) (by kernel_rfl) (by kernel_rfl) .releaseMerge (by kernel_rfl) a w

theorem store_deferred (a : Addr) (x : Value) (u : FrameMode) (w : World) (hc : w.cell? a = some x) (hz : w.frozen? a = false) :
    CallsD Tryd.prog 64 #[.pointer (some a), .bool true] u w fun e u' w' => u' = u ∧ (e = .returned (.tuple #[]) ∧ w' = w.drew.setCell a (.int .u32 1)) := by
  have hc' : w.drew.cell? a = some x := by go_simp
  have hz' : w.drew.frozen? a = false := by go_simp
  have hst := run_call_store (P := Tryd.prog) Tryd.func70 (by kernel_rfl) (by kernel_rfl) (by kernel_rfl) (by kernel_rfl) (k := .u32) (y := 1) hc' hz'
  go_enter_d Tryd.func64, Tryd.ntmps64
  go_wp2
  go_region_calls
  all_goals (go_end0; exact ⟨rfl, rfl⟩)

set_option maxRecDepth 100000 in
theorem unlock_deferred (a : Addr) (u : FrameMode) (w : World) (hc : w.cell? a = some (.int .i32 1)) (hz : w.frozen? a = false) :
    CallsD Tryd.prog 63 #[.pointer (some a)] u w fun e u' w' => u' = u ∧ (e = .returned (.tuple #[]) ∧ w' = w.setCell a (.int .i32 0)) := by
  have hd := r_disable
  have he := r_enable
  have hr := r_merge
  have hadd := run_call_add (P := Tryd.prog) Tryd.func80 (by kernel_rfl) (by kernel_rfl) (by kernel_rfl) .i32 (by kernel_rfl) (y := -1) (s := 0) hc hz (by simp [go_sem]; rfl)
  have hcv := run_convert_to_unsafe (P := Tryd.prog) (src := 123) (dst := 87) Tryd.underlying123 Tryd.underlying87 (by kernel_rfl) hc
  go_enter_d Tryd.func63, Tryd.ntmps63
  go_wp2
  go_end0
  go_wp2
  go_end0
  exact ⟨rfl, rfl⟩

set_option maxRecDepth 100000 in
theorem lock_free (a : Addr) (w : World) (hc : w.cell? a = some (.int .i32 0)) (hz : w.frozen? a = false) :
    Calls Tryd.prog 62 #[.pointer (some a)] w fun e w' => e = .returned (.tuple #[]) ∧ w' = w.setCell a (.int .i32 1) := by
  have hd := r_disable
  have he := r_enable
  have ha := r_acquire
  have hcas := run_call_cas_hit (P := Tryd.prog) Tryd.func75 (by kernel_rfl) (by kernel_rfl) (by kernel_rfl) .i32 (by kernel_rfl) (y := 1) hc hz
  have hc' : (w.setCell a (.int .i32 1)).cell? a = some (.int .i32 1) := World.cell?_setCell_same w a _ hc
  have hcv := run_convert_to_unsafe (P := Tryd.prog) (src := 123) (dst := 87) Tryd.underlying123 Tryd.underlying87 (by kernel_rfl) hc'
  go_enter Tryd.func62, Tryd.ntmps62
  go_wp2
  first | go_end0 | (simp only [Exit.inBlock, Exit.then]; refine bodyPost_ret (results_none rfl _ _ _) rfl ?_) | refine bodyPost_ret (results_none rfl _ _ _) rfl ?_
  go_wp2
  go_end0
  exact ⟨rfl, rfl⟩

/-- the flag, not yet set -/
theorem flag_clear (a : Addr) (w : World) (hc : w.cell? a = some (.int .u32 0)) :
    Calls Tryd.prog 54 #[.pointer (some a)] w fun e w' => e = .returned (.bool false) ∧ w' = w := by
  have hl := run_call_load (P := Tryd.prog) Tryd.func61 (by kernel_rfl) (by kernel_rfl) (by kernel_rfl) .u32 (by kernel_rfl) hc
  go_enter Tryd.func54, Tryd.ntmps54
  go_wp2
  go_ret
  exact ⟨rfl, rfl⟩

set_option maxRecDepth 100000 in
set_option maxHeartbeats 1600000 in
/-- doSlow at a Replacer's Once: the function handed over is met by its contract. -/
theorem slow_any (b : Nat) (x3 x4 : Value) (w : World) (hb : Blk w b [.int .u32 0, .int .i32 0, .int .u32 0, x3, x4] 77) (Q : Value → Value → World → Prop)
    (hf : ∀ w1, w1 = w.setCell ⟨b, 1, none⟩ (.int .i32 1) → Calls Tryd.prog 48 #[.pointer (some ⟨b, 0, none⟩)] w1 fun e w' => e = .returned (.tuple #[]) ∧ ∃ y3 y4, Blk w' b [.int .u32 0, .int .i32 1, .int .u32 0, y3, y4] 77 ∧ Q y3 y4 w') :
    Calls Tryd.prog 55 #[.pointer (some ⟨b, 0, none⟩), .func (.func 48) #[.pointer (some ⟨b, 0, none⟩)] #[]] w fun e w' => e = .returned (.tuple #[]) ∧
      ∃ w2 y3 y4, Blk w2 b [.int .u32 0, .int .i32 1, .int .u32 0, y3, y4] 77 ∧ Q y3 y4 w2 ∧ w' = (w2.drew.setCell ⟨b, 0, none⟩ (.int .u32 1)).setCell ⟨b, 1, none⟩ (.int .i32 0) := by
  have hb1 := Blk.set hb 1 (.int .i32 1)
  have hl := run_call_load (P := Tryd.prog) Tryd.func61 (by kernel_rfl) (by kernel_rfl) (by kernel_rfl) .u32 (by kernel_rfl) (w := w.setCell ⟨b, 1, none⟩ (.int .i32 1)) (a := ⟨b, 0, none⟩) (x := 0) (hb1.cell 0)
  have hnot : ∀ (x : Bool) (w : World), (Op.unary .not (.bool x)).run Tryd.prog w = .ok (.bool (!x)) w := fun _ _ => rfl
  have c1 := hb.cell 1
  have z1 := hb.free 1
  have HF := Lib.hid hf
  clear hf
  go_enter_defers Tryd.func55, Tryd.ntmps55
  go_wp2_with (go_at_call 62; refine (lock_free ⟨b, 1, none⟩ _ c1 z1).mono ?_; rintro e w' ⟨rfl, rfl⟩)
  refine (flag_clear ⟨b, 0, none⟩ _ (hb1.cell 0)).mono ?_
  rintro e w2 ⟨rfl, hw⟩
  subst w2
  go_wp2_with fail
  refine (HF.out _ rfl).mono ?_
  rintro e w2 ⟨rfl, y3, y4, hb2, hq⟩
  have HB := Lib.hid hb2
  have HQ := Lib.hid hq
  clear hb2 hq HF hb hb1 c1 z1 hl
  go_wp2_with fail
  -- two deferred calls, the last laid first
  refine leaves_cons (f := 64) (args := #[.pointer (some ⟨b, 0, none⟩), .bool true]) (by simp) (by simp [go_sem]) ?_
  refine (store_deferred ⟨b, 0, none⟩ (.int .u32 0) .returning _ (HB.out.cell 0) (HB.out.free 0)).mono ?_
  rintro e u' w'' ⟨rfl, rfl, rfl⟩
  have hb3 : Blk (w2.drew.setCell ⟨b, 0, none⟩ (.int .u32 1)) b [.int .u32 1, .int .i32 1, .int .u32 0, y3, y4] 77 := Blk.set (w := w2.drew) HB.out 0 (.int .u32 1)
  refine leaves_cons (f := 63) (args := #[.pointer (some ⟨b, 1, none⟩)]) (by simp [settle]) (by simp [go_sem]) ?_
  refine (unlock_deferred ⟨b, 1, none⟩ _ _ (hb3.cell 1) (hb3.free 1)).mono ?_
  rintro e u' w'' ⟨rfl, rfl, rfl⟩
  simp [Leaves, settle, results, Tryd.results55]
  exact ⟨_, _, _, HB.out, HQ.out, rfl⟩

set_option maxRecDepth 100000 in
set_option maxHeartbeats 1600000 in
theorem do_first (b : Nat) (x3 x4 : Value) (w : World) (hb : Blk w b [.int .u32 0, .int .i32 0, .int .u32 0, x3, x4] 77) (Q : Value → Value → World → Prop)
    (hf : ∀ w1, w1 = w.setCell ⟨b, 1, none⟩ (.int .i32 1) → Calls Tryd.prog 48 #[.pointer (some ⟨b, 0, none⟩)] w1 fun e w' => e = .returned (.tuple #[]) ∧ ∃ y3 y4, Blk w' b [.int .u32 0, .int .i32 1, .int .u32 0, y3, y4] 77 ∧ Q y3 y4 w') :
    Calls Tryd.prog 47 #[.pointer (some ⟨b, 0, none⟩), .func (.func 48) #[.pointer (some ⟨b, 0, none⟩)] #[]] w fun e w' => e = .returned (.tuple #[]) ∧
      ∃ w2 y3 y4, Blk w2 b [.int .u32 0, .int .i32 1, .int .u32 0, y3, y4] 77 ∧ Q y3 y4 w2 ∧ w' = (w2.drew.setCell ⟨b, 0, none⟩ (.int .u32 1)).setCell ⟨b, 1, none⟩ (.int .i32 0) := by
  have HS := Lib.hid (slow_any b x3 x4 w hb Q hf)
  have hnot : ∀ (x : Bool) (w : World), (Op.unary .not (.bool x)).run Tryd.prog w = .ok (.bool (!x)) w := fun _ _ => rfl
  clear hf
  go_enter Tryd.func47, Tryd.ntmps47
  go_wp2_with fail
  refine (flag_clear ⟨b, 0, none⟩ _ (hb.cell 0)).mono ?_
  rintro e w2 ⟨rfl, hw⟩
  subst w2
  go_wp2_with fail
  refine HS.out.mono ?_
  rintro e w2 ⟨rfl, hw⟩
  go_wp2_with fail
  go_end0
  exact ⟨rfl, hw⟩
end Go.Proofs.YtefijebbndnnjaaDoor.W
