/- The contracts of At and at; handles. -/
import Derived.Test.YtfelmdkeaacfeaaDoorTre
namespace Go.Proofs.YtfelmdkeaacfeaaDoor.W
open Go.RowKit
set_option linter.unusedVariables false
set_option linter.unusedSimpArgs false

/-- the address of a node -/
abbrev na (g k : Nat) : Addr := ⟨g, k * 10 + 1, none⟩

set_option maxRecDepth 100000 in
set_option maxHeartbeats 2000000 in
theorem At_none {B R : Nat} {S : Tr} {sv fv : Value} {w : World} (h : TAt B R S sv fv w) (hd : Int) (hh : HOk hd) (hk : S.ix hd = none) :
    Calls Tryd.prog 34 #[.pointer (some ⟨R, 0, none⟩), .int .i64 hd] w fun e w' => e = .returned (.pointer none) ∧ Below w.heap.size w w' := by
  have HF := Lib.hid (find_none h hd hh hk)
  clear h hk
  go_enter Tryd.func34, Tryd.ntmps34
  go_wp2_with fail
  refine HF.out.mono ?_
  rintro e w2 ⟨rfl, hb2⟩
  go_wp2_with fail
  go_ret
  exact ⟨rfl, hb2⟩

set_option maxRecDepth 100000 in
set_option maxHeartbeats 2000000 in
theorem At_some {B R g cap : Nat} {S : Tr} {fv : Value} {w : World} (h : TAt B R S (.slice (some ⟨g, 0, none⟩) S.slots.length cap) fv w) (hd : Int) (hh : HOk hd) {k : Nat} (hk : S.ix hd = some k) :
    Calls Tryd.prog 34 #[.pointer (some ⟨R, 0, none⟩), .int .i64 hd] w fun e w' => e = .returned (.pointer (some (na g k))) ∧ Below w.heap.size w w' := by
  have HF := Lib.hid (find_some h hd hh hk)
  obtain ⟨_, _, n, hn⟩ := ix_some hk
  have u := slot_cell h hn 0 (by omega)
  simp only [slotC, List.getElem?_cons_zero, Nat.add_zero] at u
  have hg := (h.slots.lt g rfl).2
  clear h hk hn
  go_enter Tryd.func34, Tryd.ntmps34
  go_wp2_with fail
  refine HF.out.mono ?_
  rintro e w2 ⟨rfl, hb2⟩
  obtain ⟨hc, hf⟩ := bcell hb2
  go_wp2_with fail
  go_ret
  exact ⟨rfl, hb2⟩

set_option maxRecDepth 100000 in
set_option maxHeartbeats 2000000 in
theorem at_none {B R : Nat} {S : Tr} {sv fv : Value} {w : World} (h : TAt B R S sv fv w) (hd : Int) (hh : HOk hd) (hk : S.ix hd = none) :
    Calls Tryd.prog 18 #[.pointer (some ⟨R, 0, none⟩), .int .i64 hd] w fun e w' => e = .returned (.pointer none) ∧ Below w.heap.size w w' := by
  have HF := Lib.hid (At_none h hd hh hk)
  have c0 := h.blk.cell 0
  simp at c0
  clear h hk
  go_enter Tryd.func18, Tryd.ntmps18
  go_wp2_with fail
  refine HF.out.mono ?_
  rintro e w2 ⟨rfl, hb2⟩
  go_wp2_with fail
  go_ret
  exact ⟨rfl, hb2⟩

set_option maxRecDepth 100000 in
set_option maxHeartbeats 2000000 in
theorem at_some {B R g cap : Nat} {S : Tr} {fv : Value} {w : World} (h : TAt B R S (.slice (some ⟨g, 0, none⟩) S.slots.length cap) fv w) (hd : Int) (hh : HOk hd) {k : Nat} (hk : S.ix hd = some k) :
    Calls Tryd.prog 18 #[.pointer (some ⟨R, 0, none⟩), .int .i64 hd] w fun e w' => e = .returned (.pointer (some (na g k))) ∧ Below w.heap.size w w' := by
  have HF := Lib.hid (At_some h hd hh hk)
  have c0 := h.blk.cell 0
  simp at c0
  clear h hk
  go_enter Tryd.func18, Tryd.ntmps18
  go_wp2_with fail
  refine HF.out.mono ?_
  rintro e w2 ⟨rfl, hb2⟩
  go_wp2_with fail
  go_ret
  exact ⟨rfl, hb2⟩

/-! ### handles -/
theorem hdl_val (b s : Int) (i : Nat) (hi : i ≤ 2000000000) : hdl b s i = bnd b + bnd s * i := by
  unfold hdl; rw [if_neg (by omega)]
theorem hdl_ok (b s : Int) (i : Nat) (hi : i ≤ 2000000000) : HOk (hdl b s i) ∧ 1 ≤ hdl b s i := by
  rw [hdl_val b s i hi]
  have h1 := bnd_lo b
  have h2 := bnd_hi b
  have h3 := mul_small (bnd_lo s) (bnd_hi s) (by omega : (0 : Int) ≤ i) (by omega)
  unfold HOk
  omega
theorem idx_hdl (b s : Int) (i : Nat) (hi : i ≤ 2000000000) : idx b s (hdl b s i) = i := by
  rw [hdl_val b s i hi]
  have h1 := bnd_lo s
  have h2 : bnd b + bnd s * (i : Int) - bnd b = bnd s * i := by omega
  have h3 := mul_small (bnd_lo s) (bnd_hi s) (by omega : (0 : Int) ≤ i) (by omega)
  have h4 : bnd s * (i : Int) % bnd s = 0 := Int.mul_emod_right _ _
  have h5 : bnd s * (i : Int) / bnd s = i := Int.mul_ediv_cancel_left _ (by omega)
  rw [idx_yes (by omega) (by rw [h2]; exact h4) (by rw [h2, h5]; omega), h2, h5]
theorem hdl_inj {b s : Int} {i j : Nat} (hi : i ≤ 2000000000) (hj : j ≤ 2000000000) (h : hdl b s i = hdl b s j) : i = j := by
  have h1 := idx_hdl b s i hi
  have h2 := idx_hdl b s j hj
  rw [h, h2] at h1
  omega
theorem ix_hd {S : Tr} {i : Nat} {n : Nd} (hf : S.slots.length ≤ 2000000000) (h : S.slots[i]? = some (some n)) : S.ix (S.hd i) = some i := by
  have hi := (List.getElem?_eq_some_iff.1 h).1
  unfold Tr.ix Tr.hd
  rw [idx_hdl _ _ _ (by omega), Int.toNat_natCast, h]
  simp
theorem ix_zero (S : Tr) : S.ix 0 = none := by
  unfold Tr.ix
  have : idx S.b S.s 0 = -1 := idx_no (Or.inl (by have := bnd_lo S.b; omega))
  rw [this, if_neg (by omega)]
theorem hok_zero : HOk 0 := by unfold HOk; omega
end Go.Proofs.YtfelmdkeaacfeaaDoor.W
