/- The contract of whole. -/
import Derived.Test.YtfelmdkeaacfeaaDoorFam
namespace Go.Proofs.YtfelmdkeaacfeaaDoor.W
open Go.RowKit
set_option linter.unusedVariables false
set_option linter.unusedSimpArgs false

theorem Lk.szK_step {S K d} (h : Lk S K d) (i : Nat) : szK K (128 - d i) i = 1 + ((K i).map fun k => szK K (128 - d k) k).sum := by
  cases e : 128 - d i with
  | zero =>
    have hK : K i = [] := by
      cases e2 : K i with
      | nil => rfl
      | cons k t =>
        have h1 := h.dep i k (by rw [e2]; simp)
        have h2 := h.low k
        omega
    rw [hK]; rfl
  | succ f =>
    show 1 + ((K i).map (szK K f)).sum = _
    congr 2
    refine List.map_congr_left (fun k hk => ?_)
    have h1 := h.dep i k hk
    have h2 := h.low k
    rw [show 128 - d k = f by omega]
theorem le_sum_of_mem {x : Nat} : ∀ {l : List Nat}, x ∈ l → x ≤ l.sum
  | y :: l, h => by
    rw [List.sum_cons]
    rcases List.mem_cons.1 h with rfl | h
    · omega
    · have := le_sum_of_mem h; omega
theorem Lk.szK_le {S K d} (h : Lk S K d) {i : Nat} (hi : (S.at i).isSome = true) : szK K (128 - d i) i ≤ 1000000 := by
  have h1 := h.pos i hi
  have h2 := h.low i
  have hc := count_deep h (128 - d i) (d i - 1) ((List.range S.slots.length).filter fun j => (S.at j).isSome && decide (d j = d i)) (by omega) (List.Pairwise.filter _ List.nodup_range) (fun j => by
    rw [List.mem_filter, List.mem_range, Bool.and_eq_true, decide_eq_true_iff]
    constructor
    · rintro ⟨_, a, b⟩; exact ⟨a, by omega⟩
    · rintro ⟨a, b⟩
      obtain ⟨n, hn⟩ := Option.isSome_iff_exists.1 a
      exact ⟨at_lt hn, a, by omega⟩)
  have hm : szK K (128 - d i) i ∈ ((List.range S.slots.length).filter fun j => (S.at j).isSome && decide (d j = d i)).map (szK K (128 - d i)) := by
    refine List.mem_map.2 ⟨i, ?_, rfl⟩
    obtain ⟨n, hn⟩ := Option.isSome_iff_exists.1 hi
    rw [List.mem_filter, List.mem_range]
    exact ⟨at_lt hn, by rw [hi]; simp⟩
  have h3 := le_sum_of_mem hm
  rw [hc] at h3
  have h4 : (deep S d (d i - 1)).length ≤ S.slots.length := by
    unfold deep
    have := List.length_filter_le (fun j => (S.at j).isSome && decide (d i - 1 < d j)) (List.range S.slots.length)
    simpa using this
  have := h.few
  omega
theorem sum_take_le (l : List Nat) (j : Nat) : (l.take j).sum ≤ l.sum := by
  conv => rhs; rw [← List.take_append_drop j l, List.sum_append]
  omega

def WhR (w : World) (S : Tr) (K : Nat → List Nat) (d : Nat → Nat) (i : Nat) (v : Value) (cv jv : Value) (wr : World) : Prop :=
  ∃ j : Nat, j ≤ (K i).length ∧ jv = .int .i64 (j : Int) ∧ cv = .int .i64 ((1 + (((K i).take j).map fun k => szK K (128 - d k) k).sum : Nat) : Int) ∧ wr.ownsRow w.heap.size 3 1 v (K i).length (hC ((K i).map S.hd)) ∧ Below w.heap.size w wr

set_option maxRecDepth 100000 in
set_option maxHeartbeats 4000000 in
theorem whole_any {B R g cap : Nat} {S : Tr} {fv : Value} {K : Nat → List Nat} {d : Nat → Nat} (hL : Lk S K d)
    (HF : ∀ i n, S.at i = some n → ∀ wx, TAt B R S (.slice (some ⟨g, 0, none⟩) S.slots.length cap) fv wx → Calls Tryd.prog 39 #[.pointer (some (na g i))] wx fun e w' => e = .returned (.bool true) ∧ Below wx.heap.size wx w')
    (HM : ∀ p k np nk, k ∈ K p → S.at p = some np → S.at k = some nk → mayB S K d p k np nk = true) : ∀ (f i : Nat) (n : Nd), S.at i = some n → 128 - d i = f → ∀ w, TAt B R S (.slice (some ⟨g, 0, none⟩) S.slots.length cap) fv w →
    Calls Tryd.prog 25 #[.pointer (some ⟨R, 0, none⟩), .int .i64 (S.hd i), .int .i64 (d i : Int)] w fun e w' => e = .returned (.tuple #[.int .i64 (szK K (128 - d i) i : Int), .bool true]) ∧ Below w.heap.size w w' := by
  intro f
  induction f using Nat.strongRecOn with
  | _ f ih =>
    intro i n hi hf w h
    have HA := Lib.hid (at_some h (S.hd i) (hd_ok hL hi).1 (hd_ix hL hi))
    have HFI := Lib.hid (fun wx (hb : Below w.heap.size w wx) => HF i n hi wx (h.below hb))
    have HFM := Lib.hid (fun wx (hb : Below w.heap.size w wx) => family_any (h.below hb) hL i n hi)
    have HT := Lib.hid h
    have HII := Lib.hid hi
    have HIH := Lib.hid ih
    have hkl := kids_len hL i
    have hlow := hL.low i
    have hst := hL.szK_step i
    have hle := hL.szK_le (i := i) (by rw [hi]; rfl)
    rw [hst] at hle
    have HST := Lib.hid hst
    have d0 : decide ((128 : Int) < (d i : Int)) = false := by simp; omega
    clear h ih hi hst
    go_enter Tryd.func25, Tryd.ntmps25
    go_wp2_with fail
    refine HA.out.mono ?_
    rintro e w2 ⟨rfl, hb2⟩
    go_wp2_with fail
    refine (HFI.out _ hb2).mono ?_
    rintro e w3 ⟨rfl, hb3⟩
    have hB3 := bthen hb2 hb3
    go_wp2_with fail
    refine (HFM.out _ hB3).mono ?_
    rintro e w4 ⟨v, rfl, hown, hb4⟩
    have hB4 := bthen hB3 hb4
    have hown' := own_low hown hB3.size
    obtain ⟨a, cp, rfl⟩ := own_shapeB hown'
    clear hown
    go_wp2_with fail
    go_loopw [10, 34] (fun cv jv wr => WhR w S K d i (.slice a (K i).length cp) cv jv wr) (fun _ jv _ => (K i).length - (intOf jv).toNat)
    case atStart => exact ⟨0, by omega, rfl, by simp, hown', hB4⟩
    case round =>
      obtain ⟨j, hj, rfl, rfl, ho, hB⟩ := hrel
      by_cases hlt : j < (K i).length
      · obtain ⟨k, hk⟩ : ∃ k, (K i)[j]? = some k := ⟨_, List.getElem?_eq_getElem hlt⟩
        obtain ⟨nk, hnk⟩ := hL.some hk
        obtain ⟨gv, cp2, hv, hc⟩ := own_int ho (x := S.hd k) (by rw [List.getElem?_map, hk]; rfl)
        have hkm := List.mem_of_getElem? hk
        have hdk := hL.dep i k hkm
        have hlk := hL.low k
        have hkle := hL.szK_le (i := k) (by rw [hnk]; rfl)
        have HH := Lib.hid (HIH.out (128 - d k) (by omega) k nk hnk rfl wr (HT.out.below hB))
        rw [show ((d k : Nat) : Int) = (d i : Int) + 1 by omega] at HH
        have HMM := Lib.hid (fun wx (hb : Below w.heap.size w wx) => may_any (HT.out.below hb) hL i k n nk HII.out hnk)
        rw [HM i k n nk hkm HII.out hnk] at HMM
        have htk : 1 + (((K i).take (j + 1)).map fun k => szK K (128 - d k) k).sum = 1 + (((K i).take j).map fun k => szK K (128 - d k) k).sum + szK K (128 - d k) k := by
          rw [List.take_add_one, hk]; simp; omega
        have hpre : (((K i).take j).map fun k => szK K (128 - d k) k).sum ≤ ((K i).map fun k => szK K (128 - d k) k).sum := by
          rw [List.map_take]; exact sum_take_le _ _
        have hM : 1 + (((K i).take j).map fun k => szK K (128 - d k) k).sum ≤ 1000001 := by omega
        have HTK := Lib.hid htk
        have HO := Lib.hid ho
        clear ho htk
        generalize 1 + (((K i).take j).map fun k => szK K (128 - d k) k).sum = M at *
        generalize szK K (128 - d k) k = H at *
        generalize S.hd k = hk1 at *
        generalize S.hd i = hi1 at *
        cases hv
        go_wp2_with fail
        refine HH.out.mono ?_
        rintro e w6 ⟨rfl, hb6⟩
        have hB6 := hB.trans (hb6.mono hB.size)
        have HO6 := Lib.hid (own_keepB HO.out hb6)
        go_wp2_with fail
        refine (HMM.out _ hB6).mono ?_
        rintro e w7 ⟨rfl, hb7⟩
        have hB7 := hB6.trans (hb7.mono hB6.size)
        have HO7 := Lib.hid (own_keepB HO6.out hb7)
        clear HO HO6
        go_wp2_with fail
        refine ⟨⟨j + 1, by omega, by go_num, ?_, HO7.out, hB7⟩, by simp [intOf]; omega⟩
        rw [HTK.out]
        go_num
      · obtain rfl : j = (K i).length := by omega
        rw [List.take_length, ← HST.out]
        clear ho
        go_wp2_with fail
        go_ret2
        exact ⟨rfl, hB⟩
end Go.Proofs.YtfelmdkeaacfeaaDoor.W
