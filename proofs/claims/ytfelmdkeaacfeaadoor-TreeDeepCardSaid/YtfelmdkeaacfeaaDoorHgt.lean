/- The contract of height. -/
import Derived.Test.YtfelmdkeaacfeaaDoorLkB
namespace Go.Proofs.YtfelmdkeaacfeaaDoor.W
open Go.RowKit
set_option linter.unusedVariables false
set_option linter.unusedSimpArgs false

/-- the number of levels of a subtree -/
def hgt (K : Nat → List Nat) : Nat → Nat → Nat
  | 0, _ => 1
  | f + 1, i => (K i).foldl (fun m k => max m (hgt K f k)) 0 + 1
theorem foldl_max_le {α : Type} (f : α → Nat) (B : Nat) : ∀ (l : List α) (m : Nat), m ≤ B → (∀ k ∈ l, f k ≤ B) → l.foldl (fun m k => max m (f k)) m ≤ B
  | [], m, h, _ => h
  | k :: l, m, h, hl => foldl_max_le f B l (max m (f k)) (by have := hl k (by simp); omega) (fun x hx => hl x (by simp [hx]))
theorem hgt_le (K : Nat → List Nat) : ∀ f i, hgt K f i ≤ f + 1
  | 0, _ => Nat.le_refl _
  | f + 1, i => by
    unfold hgt
    have := foldl_max_le (hgt K f) (f + 1) (K i) 0 (by omega) (fun k _ => hgt_le K f k)
    omega

/-- an element of a row of numbers -/
theorem own_int {w : World} {B n : Nat} {v : Value} {l : List Int} (h : w.ownsRow B 3 1 v n (hC l)) {j : Nat} {x : Int} (hx : l[j]? = some x) : ∃ gv cap, v = .slice (some ⟨gv, 0, none⟩) n cap ∧ w.cell? ⟨gv, j, none⟩ = some (.int .i64 x) := by
  rcases h.2 with ⟨rfl, e⟩ | ⟨gv, cap, cur, rfl, _⟩
  · have hl := h.1
    have := (List.getElem?_eq_some_iff.1 hx).1
    simp [hC] at hl
    omega
  · refine ⟨gv, cap, rfl, ?_⟩
    have := h.cells (g := gv) rfl j (.int .i64 x) (by unfold hC; rw [List.getElem?_map, hx]; rfl)
    rwa [show (⟨gv, 0, none⟩ : Addr).add j = ⟨gv, j, none⟩ by unfold Addr.add; split <;> simp_all] at this
theorem own_shapeB {w : World} {B e sz n : Nat} {v : Value} {xs : List Value} (h : w.ownsRow B e sz v n xs) : ∃ a cap, v = .slice a n cap := by
  rcases h.2 with ⟨rfl, e⟩ | ⟨g, cap, cur, rfl, _⟩
  · exact ⟨none, 0, by rw [e]⟩
  · exact ⟨_, _, rfl⟩

def HgR (w : World) (K : Nat → List Nat) (f : Nat) (l : List Nat) (v : Value) (S : Tr) (mv jv : Value) (wr : World) : Prop :=
  ∃ j : Nat, j ≤ l.length ∧ jv = .int .i64 (j : Int) ∧ mv = .int .i64 (((l.take j).foldl (fun m k => max m (hgt K f k)) 0 : Nat) : Int) ∧ wr.ownsRow w.heap.size 3 1 v l.length (hC (l.map S.hd)) ∧ Below w.heap.size w wr

set_option maxRecDepth 100000 in
set_option maxHeartbeats 4000000 in
theorem height_any {B R g cap : Nat} {S : Tr} {fv : Value} {K : Nat → List Nat} {d : Nat → Nat} (hL : Lk S K d) : ∀ (f i : Nat) (n : Nd), S.at i = some n → 128 - d i = f → ∀ w, TAt B R S (.slice (some ⟨g, 0, none⟩) S.slots.length cap) fv w →
    Calls Tryd.prog 21 #[.pointer (some ⟨R, 0, none⟩), .int .i64 (S.hd i)] w fun e w' => e = .returned (.int .i64 (hgt K f i : Int)) ∧ Below w.heap.size w w' := by
  intro f
  induction f with
  | zero =>
    intro i n hi hf w h
    have hK : K i = [] := by
      cases e : K i with
      | nil => rfl
      | cons k t =>
        have h1 := hL.dep i k (by rw [e]; simp)
        have h2 := hL.low k
        omega
    have HA := Lib.hid (kids_any h hL i n hi)
    rw [hK] at HA
    clear h
    go_enter Tryd.func21, Tryd.ntmps21
    go_wp2_with fail
    refine HA.out.mono ?_
    rintro e w2 ⟨v, rfl, hown, hb2⟩
    obtain ⟨a, cp, rfl⟩ := own_shapeB hown
    simp only [List.length_nil]
    go_wp2_with fail
    go_loopw [5, 12] (fun mv jv wr => mv = .int .i64 0 ∧ jv = .int .i64 0 ∧ Below w.heap.size w wr) (fun _ _ _ => 0)
    case atStart => exact ⟨rfl, rfl, hb2⟩
    case round =>
      obtain ⟨rfl, rfl, hB⟩ := hrel
      go_wp2_with fail
      go_ret
      exact ⟨rfl, hB⟩
  | succ f ih =>
    intro i n hi hf w h
    have HA := Lib.hid (kids_any h hL i n hi)
    have HT := Lib.hid h
    have hkl := kids_len hL i
    clear h
    have HIH := Lib.hid ih
    clear ih
    go_enter Tryd.func21, Tryd.ntmps21
    go_wp2_with fail
    refine HA.out.mono ?_
    rintro e w2 ⟨v, rfl, hown, hb2⟩
    obtain ⟨a, cp, rfl⟩ := own_shapeB hown
    go_wp2_with fail
    go_loopw [5, 12] (fun mv jv wr => HgR w K f (K i) (.slice a (K i).length cp) S mv jv wr) (fun _ jv _ => (K i).length - (intOf jv).toNat)
    case atStart => exact ⟨0, by omega, rfl, rfl, hown, hb2⟩
    case round =>
      obtain ⟨j, hj, rfl, rfl, ho, hB⟩ := hrel
      by_cases hlt : j < (K i).length
      · obtain ⟨k, hk⟩ : ∃ k, (K i)[j]? = some k := ⟨_, List.getElem?_eq_getElem hlt⟩
        obtain ⟨nk, hnk⟩ := hL.some hk
        obtain ⟨gv, cp2, hv, hc⟩ := own_int ho (x := S.hd k) (by rw [List.getElem?_map, hk]; rfl)
        have hdk := hL.dep i k (List.mem_of_getElem? hk)
        have hlow := hL.low k
        have HH := Lib.hid (HIH.out k nk hnk (by omega) wr (HT.out.below hB))
        have hmx := foldl_max_le (hgt K f) (f + 1) ((K i).take j) 0 (by omega) (fun k _ => hgt_le K f k)
        have hhk := hgt_le K f k
        have HM := Lib.hid (show ((K i).take (j + 1)).foldl (fun m k => max m (hgt K f k)) 0 = max (((K i).take j).foldl (fun m k => max m (hgt K f k)) 0) (hgt K f k) by
          rw [List.take_add_one, hk]; simp)
        have HO := Lib.hid ho
        clear ho
        generalize ((K i).take j).foldl (fun m k => max m (hgt K f k)) 0 = M at *
        generalize hgt K f k = H at *
        generalize S.hd k = hk1 at *
        cases hv
        go_wp2_with fail
        refine HH.out.mono ?_
        rintro e w6 ⟨rfl, hb6⟩
        have hB6 := hB.trans (hb6.mono hB.size)
        have HO6 := Lib.hid (own_keepB HO.out hb6)
        go_wp2_with fail
        refine ⟨⟨j + 1, by omega, by go_num, ?_, HO6.out, hB6⟩, by simp [intOf]; omega⟩
        rw [HM.out]
        congr 1
        split <;> omega
      · obtain rfl : j = (K i).length := by omega
        rw [List.take_length]
        have hmx := foldl_max_le (hgt K f) (f + 1) (K i) 0 (by omega) (fun k _ => hgt_le K f k)
        have HM := Lib.hid (show hgt K (f + 1) i = (K i).foldl (fun m k => max m (hgt K f k)) 0 + 1 from rfl)
        generalize (K i).foldl (fun m k => max m (hgt K f k)) 0 = M at *
        clear ho
        go_wp2_with fail
        go_ret
        exact ⟨by rw [HM.out]; simp, hB⟩
end Go.Proofs.YtfelmdkeaacfeaaDoor.W
