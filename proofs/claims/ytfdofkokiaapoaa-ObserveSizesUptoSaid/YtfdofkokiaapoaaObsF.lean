/- The law's own helpers: sizes, size; an argument of triples of bytes. -/
import Derived.Test.YtfdofkokiaapoaaObsE
namespace Go.Proofs.Ytfdofkokiaapoaa.W
open Go.RowKit
set_option linter.unusedVariables false

/-- triples of bytes in memory -/
def InT (w : World) (A : Option Addr) (l : List Sz) : Prop := 0 < l.length → ∃ b off, A = some ⟨b, off, none⟩ ∧ b < w.heap.size ∧ ∀ (k : Nat) (y : Sz), l[k]? = some y → w.cell? ⟨b, off + k * 3, none⟩ = some (.int .u8 y.1) ∧ w.cell? ⟨b, off + k * 3 + 1, none⟩ = some (.int .u8 y.2.1) ∧ w.cell? ⟨b, off + k * 3 + 2, none⟩ = some (.int .u8 y.2.2)
theorem InT.below {w w' : World} {A : Option Addr} {l : List Sz} (h : InT w A l) {B : Nat} (hB : w.heap.size ≤ B) (k : Below B w w') : InT w' A l := fun hn => by
  obtain ⟨b, off, rfl, hb, hc⟩ := h hn
  refine ⟨b, off, rfl, Nat.lt_of_lt_of_le hb k.size, fun j y hy => ?_⟩
  obtain ⟨h0, h1, h2⟩ := hc j y hy
  exact ⟨(k.cell (p := ⟨b, off + j * 3, none⟩) (Nat.lt_of_lt_of_le hb hB)).trans h0, (k.cell (p := ⟨b, off + j * 3 + 1, none⟩) (Nat.lt_of_lt_of_le hb hB)).trans h1, (k.cell (p := ⟨b, off + j * 3 + 2, none⟩) (Nat.lt_of_lt_of_le hb hB)).trans h2⟩
theorem InT.still {w w' : World} {A : Option Addr} {l : List Sz} (h : InT w A l) (k : Below w.heap.size w w') : InT w' A l := h.below (Nat.le_refl _) k
def Byt (l : List Sz) : Prop := ∀ y ∈ l, (0 ≤ y.1 ∧ y.1 ≤ 255) ∧ (0 ≤ y.2.1 ∧ y.2.1 ≤ 255) ∧ (0 ≤ y.2.2 ∧ y.2.2 ≤ 255)

def SzR (w : World) (l : List Sz) (v iv : Value) (wr : World) : Prop := ∃ k : Nat, k ≤ l.length ∧ iv = .int .i64 (k : Int) ∧ All w.heap.size w [zl v (l.take k)] wr
theorem take_succ_get (l : List Sz) (k : Nat) (y : Sz) (h : l[k]? = some y) : l.take (k + 1) = l.take k ++ [y] := by rw [List.take_add_one, h]; rfl

set_option maxRecDepth 100000 in
set_option maxHeartbeats 1000000 in
theorem sizes_any {w : World} {A : Option Addr} {l : List Sz} {c : Nat} (h : InT w A l) (hb : Byt l) (hl : l.length ≤ 2000000) :
    Calls Try.prog 9 #[.slice A l.length c] w fun e w' => ∃ v, e = .returned v ∧ All w.heap.size w [zl v l] w' := by
  have H := Lib.hid h
  have HB := Lib.hid hb
  clear h hb
  go_enter Try.func9, Try.ntmps9
  go_wp2_with fail
  go_loopw [3, 7] (fun v iv wr => SzR w l v iv wr) (fun _ iv _ => l.length - (intOf iv).toNat)
  case atStart => exact ⟨0, Nat.zero_le _, rfl, (All.start w).nil 41 3⟩
  case round =>
    obtain ⟨k, hk, rfl, hA⟩ := hrel
    by_cases hkl : k < l.length
    · obtain ⟨⟨y0, y1, y2⟩, hy⟩ : ∃ y, l[k]? = some y := ⟨_, List.getElem?_eq_getElem hkl⟩
      obtain ⟨b, off, rfl, hbl, hc⟩ := (H.out.still hA.below) (by omega)
      obtain ⟨q0, q1, q2⟩ := hc k _ hy
      obtain ⟨⟨b0, b1⟩, ⟨b2, b3⟩, ⟨b4, b5⟩⟩ := HB.out _ (List.mem_of_getElem? hy)
      have HT := Lib.hid (take_succ_get l k _ hy)
      have hlen : (l.take k).length = k := by simp; omega
      have ho : Own _ _ _ _ _ _ := hA.head
      obtain ⟨va, vc, rfl⟩ := own_shape ho
      have HL := Lib.hid hlen
      have ea0 : ∀ o, (wr.alloc o).cell? ⟨b, off + k * 3, none⟩ = some (.int .u8 y0) := fun o => (World.cell?_alloc_lt _ _ _ hbl).trans q0
      have ea1 : ∀ o, (wr.alloc o).cell? ⟨b, off + k * 3 + 1, none⟩ = some (.int .u8 y1) := fun o => (World.cell?_alloc_lt _ _ _ hbl).trans q1
      have ea2 : ∀ o, (wr.alloc o).cell? ⟨b, off + k * 3 + 2, none⟩ = some (.int .u8 y2) := fun o => (World.cell?_alloc_lt _ _ _ hbl).trans q2
      rw [hlen]
      simp only at b0 b1 b2 b3 b4 b5 q0 q1 q2
      have key : ∀ n, (l.take k).length = n → All w.heap.size w ([] ++ sl 41 3 (.slice va n vc) n (rows encZ (l.take k)) :: []) wr := by rintro n rfl; exact hA
      have H9 := Lib.hid ((key k hlen).alloc (.cells #[.int .i64 y0, .int .i64 y1, .int .i64 y2] 41)).drew
      have w0' : IntKind.i64.wrap y0 = y0 := IntWalk.i64_in _ ⟨by omega, by omega⟩
      have w1' : IntKind.i64.wrap y1 = y1 := IntWalk.i64_in _ ⟨by omega, by omega⟩
      have w2' : IntKind.i64.wrap y2 = y2 := IntWalk.i64_in _ ⟨by omega, by omega⟩
      clear hA hy hc ho hlen key
      go_wp2_with fail
      go_region_law (first
        | (refine step_append_all etZ [] H9.out (own_at (w := (wr.alloc _).drew) (n := 1) (size := 3) (Blk.new wr [.int .i64 y0, .int .i64 y1, .int .i64 y2] 41) rfl (by omega)) (by intro u hu; simp at hu; rcases hu with rfl | rfl | rfl <;> rfl) (by omega) (by omega) (by rfl) _ _ (by rfl) (by rfl) (by rfl) ?_; intro v' w6 hA6; have HB6 := Lib.hid hA6; clear hA6))
      all_goals
        clear w0' w1' w2' ea0 ea1 ea2 q0 q1 q2
        go_wp2_with fail
        go_roundw
        case rel =>
          refine ⟨k + 1, by omega, by go_num, ?_⟩
          have e1 : (l.take (k + 1)).length = k + 1 := by simp; omega
          have e2 : rows encZ (l.take (k + 1)) = rows encZ (l.take k) ++ [.int .i64 y0, .int .i64 y1, .int .i64 y2] := by rw [HT.out]; exact rows_snoc _ _
          have h6 := HB6.out
          rw [← e2] at h6
          have key : ∀ n v, n = k + 1 → All w.heap.size w ([] ++ sl 41 3 v (k + 1) (rows encZ (l.take (k + 1))) :: []) w6 → All w.heap.size w [sl 41 3 v n (rows encZ (l.take (k + 1)))] w6 := by rintro n v rfl h; exact h
          exact key _ _ e1 h6
        case measure => simp [intOf]; omega
    · obtain rfl : k = l.length := by omega
      have HA := Lib.hid hA
      clear hA
      go_wp2_with fail
      go_ret
      exact ⟨_, rfl, by have := HA.out; rw [List.take_length] at this; exact this⟩

theorem nowOf_hit {L : List Sz} {x y : Sz} {k : Nat} (hk : L[k]? = some y) (hy : y.1 = x.1) (h : ∀ (j : Nat) (z : Sz), j < k → L[j]? = some z → z.1 ≠ x.1) : nowOf L x = y := by
  unfold nowOf
  have : L.find? (fun y => y.1 == x.1) = some y := by
    obtain ⟨h1, h2⟩ := List.getElem?_eq_some_iff.1 hk
    rw [List.find?_eq_some_iff_getElem]
    exact ⟨by simpa using hy, k, h1, h2, fun j hj => by have := h j _ hj (List.getElem?_eq_getElem (by omega)); simpa using this⟩
  rw [this]
theorem nowOf_miss {L : List Sz} {x : Sz} (h : ∀ (j : Nat) (z : Sz), L[j]? = some z → z.1 ≠ x.1) : nowOf L x = (x.1, 0, 0) := by
  unfold nowOf
  have : L.find? (fun y => y.1 == x.1) = none := by
    rw [List.find?_eq_none]
    intro z hz
    obtain ⟨j, hj⟩ := List.getElem?_of_mem hz
    simpa using h j z hj
  rw [this]
set_option maxRecDepth 100000 in
set_option maxHeartbeats 1000000 in
theorem size_any {w : World} {A : Option Addr} {l : List Sz} {c : Nat} (x : Sz) (h : InT w A l) (hb : Byt l) (hl : l.length ≤ 2000000) :
    Calls Try.prog 12 #[.slice A l.length c, .int .i64 x.1] w fun e w' => e = .returned (.agg (encZ (nowOf l x)).toArray) ∧ Below w.heap.size w w' := by
  have H := Lib.hid h
  have HB := Lib.hid hb
  clear h hb
  go_enter Try.func12, Try.ntmps12
  go_wp2_with fail
  go_loop [8] (fun iv => ∃ k : Nat, k ≤ l.length ∧ iv = .int .i64 (k : Int) ∧ ∀ (j : Nat) (y : Sz), j < k → l[j]? = some y → y.1 ≠ x.1) (fun iv => l.length - (intOf iv).toNat)
  case atStart => exact ⟨0, Nat.zero_le _, rfl, fun j y hj => absurd hj (Nat.not_lt_zero j)⟩
  case round =>
    obtain ⟨k, hk, rfl, hN⟩ := hrel
    have HN := Lib.hid hN
    clear hN
    by_cases hkl : k < l.length
    · obtain ⟨⟨y0, y1, y2⟩, hy⟩ : ∃ y, l[k]? = some y := ⟨_, List.getElem?_eq_getElem hkl⟩
      obtain ⟨b, off, rfl, hbl, hc⟩ := H.out (by omega)
      obtain ⟨q0, q1, q2⟩ := hc k _ hy
      obtain ⟨⟨b0, b1⟩, ⟨b2, b3⟩, ⟨b4, b5⟩⟩ := HB.out _ (List.mem_of_getElem? hy)
      simp only at b0 b1 b2 b3 b4 b5 q0 q1 q2
      have hbn : b ≠ w.heap.size := by omega
      have hbn' := hbn.symm
      have ea0 : ∀ o, (w.alloc o).cell? ⟨b, off + k * 3, none⟩ = some (.int .u8 y0) := fun o => (World.cell?_alloc_lt _ _ _ hbl).trans q0
      have ea1 : ∀ o, (w.alloc o).cell? ⟨b, off + k * 3 + 1, none⟩ = some (.int .u8 y1) := fun o => (World.cell?_alloc_lt _ _ _ hbl).trans q1
      have ea2 : ∀ o, (w.alloc o).cell? ⟨b, off + k * 3 + 2, none⟩ = some (.int .u8 y2) := fun o => (World.cell?_alloc_lt _ _ _ hbl).trans q2
      have HY := Lib.hid hy
      clear hc hy
      by_cases hx : y0 = x.1
      · have HW := Lib.hid (nowOf_hit (x := x) HY.out hx HN.out)
        have e1 : (y0 == x.1) = true := by simpa using hx
        have HX := Lib.hid hx
        clear hx
        have w1' : IntKind.i64.wrap y1 = y1 := IntWalk.i64_in _ ⟨by omega, by omega⟩
        have w2' : IntKind.i64.wrap y2 = y2 := IntWalk.i64_in _ ⟨by omega, by omega⟩
        go_wp2_with fail
        go_region
        clear w1' w2'
        go_wp2_with fail
        refine bodyPost_ret (v := .agg #[.int .i64 x.1, .int .i64 y1, .int .i64 y2]) (by simp [results, Try.results12, go_sem]) rfl ⟨?_, ?_⟩
        · rw [HW.out, ← HX.out]
          rfl
        · exact ((Below.refl _ _).alloc (Nat.le_refl _) _).drew
      · have e1 : (y0 == x.1) = false := by simpa using hx
        go_wp2_with fail
        go_round
        case rel =>
          refine ⟨k + 1, by omega, by go_num, fun j z hj hz => ?_⟩
          by_cases e : j = k
          · subst e
            rw [HY.out] at hz
            obtain rfl := Option.some.inj hz
            exact hx
          · exact HN.out j z (by omega) hz
        case measure => simp [intOf]; omega
    · have HW := Lib.hid (nowOf_miss (L := l) (x := x) fun j z hz => HN.out j z (by have := (List.getElem?_eq_some_iff.1 hz).1; omega) hz)
      go_wp2_with fail
      refine bodyPost_ret (v := .agg #[.int .i64 x.1, .int .i64 0, .int .i64 0]) (by simp [results, Try.results12, go_sem]) rfl ⟨?_, ?_⟩
      · rw [HW.out]
        rfl
      · exact (Below.refl _ _).alloc (Nat.le_refl _) _
end Go.Proofs.Ytfdofkokiaapoaa.W
