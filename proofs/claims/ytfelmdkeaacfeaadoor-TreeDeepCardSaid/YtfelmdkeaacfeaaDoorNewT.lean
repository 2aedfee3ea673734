/- The contract of New. -/
import Derived.Test.YtfelmdkeaacfeaaDoorAdd
namespace Go.Proofs.YtfelmdkeaacfeaaDoor.W
open Go.RowKit
set_option linter.unusedVariables false
set_option linter.unusedSimpArgs false

theorem arena_new (b s : Int) (w : World) :
    Calls Tryd.prog 9 #[.agg #[.int .i64 b, .int .i64 s]] w fun e w' => e = .returned (.agg #[.int .i64 b, .int .i64 s, .slice none 0 0, .slice none 0 0, .int .i64 0]) ∧ Below w.heap.size w w' := by
  go_enter Tryd.func9, Tryd.ntmps9
  go_wp2
  exact bodyPost_ret (v := .agg #[.int .i64 b, .int .i64 s, .slice none 0 0, .slice none 0 0, .int .i64 0]) (by simp [results, Tryd.results9, go_sem]) rfl ⟨rfl, ((Below.refl _ _).alloc (Nat.le_refl _) _).alloc (by simp) _⟩

theorem TAt.setRoot {B R : Nat} {S : Tr} {sv fv : Value} {w : World} (h : TAt B R S sv fv w) (r : Int) : TAt B R { S with root := r } sv fv (w.setCell ⟨R, 5, none⟩ (.int .i64 r)) := by
  have other : ∀ {k : Nat} {cs : Array Value} {t : TypeId}, w.heap[k]? = some (.cells cs t (0, 0)) → 32 ≠ t → (w.setCell ⟨R, 5, none⟩ (.int .i64 r)).heap[k]? = w.heap[k]? := fun hk ht => Below.heap_setCell _ _ _ _ (fun e => blk_ne h.blk hk ht e.symm)
  have keep : ∀ {e sz n : Nat} {v : Value} {xs : List Value}, 32 ≠ e → w.ownsRow B e sz v n xs → (w.setCell ⟨R, 5, none⟩ (.int .i64 r)).ownsRow B e sz v n xs := fun ht ⟨h1, h2⟩ =>
    ⟨h1, h2.imp id fun ⟨g', cap', cur', e1, e2, e3, rest⟩ => ⟨g', cap', cur', e1, e2, (other e3 ht).trans e3, rest⟩⟩
  refine ⟨h.blk.set 5 (.int .i64 r), keep (by decide) h.slots, keep (by decide) h.free, fun i n hi => ?_, h.base, h.few⟩
  obtain ⟨a, cp, e, hx⟩ := h.attrs i n hi
  exact ⟨a, cp, e, hx.imp id fun ⟨g', cur', e1, e2, e3, e4⟩ => ⟨g', cur', e1, e2, (other e3 (by decide)).trans e3, e4⟩⟩

def newT (b s : Int) : Tr := ⟨b, s, [some (newN 1 [])], [], hdl b s 0⟩
set_option maxRecDepth 100000 in
set_option maxHeartbeats 4000000 in
theorem tree_new (b s : Int) (w : World) :
    Calls Tryd.prog 5 #[.agg #[.int .i64 b, .int .i64 s]] w fun e w' => ∃ R sv, e = .returned (.pointer (some ⟨R, 0, none⟩)) ∧ TAt w.heap.size R (newT b s) sv (.slice none 0 0) w' ∧ Below w.heap.size w w' := by
  go_enter Tryd.func5, Tryd.ntmps5
  go_wp2_with fail
  have hB1 := (Below.refl w.heap.size w).alloc (Nat.le_refl _) (.cells #[.int .i64 b, .int .i64 s] 26)
  have HB1 := Lib.hid hB1
  clear hB1
  generalize w.alloc (.cells #[.int .i64 b, .int .i64 s] 26) = W at *
  refine (arena_new b s _).mono ?_
  rintro e w2 ⟨rfl, hb2⟩
  have HB2 := Lib.hid (HB1.out.trans (hb2.mono HB1.out.size))
  clear hb2
  go_wp2_with fail
  have hA := TAt.mk (B := w.heap.size) (S := ⟨b, s, [], [], 0⟩) (fv := .slice none 0 0) (Blk.new w2 [.int .i64 b, .int .i64 s, .slice none 0 0, .slice none 0 0, .int .i64 0, .int .i64 0] 32) (World.ownsRow_nil _ _ _ _) (World.ownsRow_nil _ _ _ _) (fun i n hi => by simp at hi) HB2.out.size (by simp)
  have hB3 := HB2.out.alloc HB2.out.size (.cells #[.int .i64 b, .int .i64 s, .slice none 0 0, .slice none 0 0, .int .i64 0, .int .i64 0] 32)
  have HB3 := Lib.hid hB3
  clear hB3
  have HA := Lib.hid (add_new hA rfl (by simp) (newN 1 []) ⟨none, 0, rfl, .inl rfl⟩)
  have HT := Lib.hid hA
  clear hA
  generalize hW2 : w2.alloc (.cells #[.int .i64 b, .int .i64 s, .slice none 0 0, .slice none 0 0, .int .i64 0, .int .i64 0] 32) = W2 at *
  generalize hR : w2.heap.size = R at *
  go_wp2_with fail
  refine HA.out.mono ?_
  rintro e w3 ⟨sv, rfl, hT3, hC3, _⟩
  have hlt := hT3.blk.lt
  have hf := hT3.blk.free 5
  have c5 := hT3.blk.cell 5
  simp only [List.getElem?_cons_succ, List.getElem?_cons_zero] at c5
  have hT4 := hT3.setRoot (hdl b s 0)
  have HT4 := Lib.hid hT4
  have HC3 := Lib.hid hC3
  have hR2 := HB2.out.size
  clear hT3 hC3 hT4 HA
  go_wp2_with fail
  go_ret
  refine ⟨R, sv, rfl, HT4.out, ?_⟩
  have h3 : Below w.heap.size w w3 := HB3.out.trans (HC3.out.below HB3.out.size (fun k hk => by
    rcases hk with rfl | e
    · omega
    · cases e))
  exact h3.setCell (p := ⟨R, 5, none⟩) (by show w.heap.size ≤ R; omega) _
end Go.Proofs.YtfelmdkeaacfeaaDoor.W
