/- The contract of text.Lower, for any string. -/
import Derived.Test.YtfelmdkeaacfeaaDoorNewT
import Derived.Laws.IdiomStrings
namespace Go.Proofs.YtfelmdkeaacfeaaDoor.W
open Go.RowKit
set_option linter.unusedVariables false
set_option linter.unusedSimpArgs false

def lowB (b : UInt8) : UInt8 := if 65 ≤ b.toNat ∧ b.toNat ≤ 90 then UInt8.ofNat (b.toNat + 32) else b
/-- a block of bytes of the call's own: the first k moved -/
structure LwR (w : World) (l : List UInt8) (k : Nat) (wr : World) : Prop where
  cell : ∀ j b, l[j]? = some b → wr.cell? ⟨w.heap.size, j, none⟩ = some (.int .u8 (((if j < k then lowB b else b).toNat : Nat) : Int))
  free : ∀ j, j < l.length → wr.frozen? ⟨w.heap.size, j, none⟩ = false
  below : Below w.heap.size w wr
  lt : w.heap.size < wr.heap.size

theorem LwR.start (w : World) (s : ByteArray) (cap : Nat) (t : TypeId) : LwR w s.data.toList 0 (w.drew.alloc (.cells (bytesRow s cap) t ((bytesRow s cap).size, (bytesRow s cap).size + 1))) := by
  have hn : (w.drew.alloc (.cells (bytesRow s cap) t ((bytesRow s cap).size, (bytesRow s cap).size + 1))).heap[w.heap.size]? = some (.cells (bytesRow s cap) t ((bytesRow s cap).size, (bytesRow s cap).size + 1)) := heap_alloc_new w.drew _
  refine ⟨?_, ?_, (Below.refl _ _).drew.alloc (Nat.le_refl _) _, by simp⟩
  · intro j b hb
    have hj : j < s.data.size := by have := (List.getElem?_eq_some_iff.1 hb).1; simpa using this
    rw [if_neg (by omega)]
    unfold World.cell?
    simp only [hn]
    unfold bytesRow
    rw [Array.getElem?_append_left (by simpa using hj), Array.getElem?_map]
    have : s.data[j]? = some b := by simpa using hb
    rw [this]
    rfl
  · intro j hj
    have hj : j < s.data.size := by simpa using hj
    unfold World.frozen?
    simp only [hn]
    have : (bytesRow s cap).size ≥ s.data.size := by unfold bytesRow; simp
    simp; omega

theorem LwR.skip {w wr : World} {l : List UInt8} {k : Nat} (h : LwR w l k wr) {b : UInt8} (hb : l[k]? = some b) (hn : lowB b = b) : LwR w l (k + 1) wr := by
  refine ⟨fun j c hc => ?_, h.free, h.below, h.lt⟩
  have := h.cell j c hc
  by_cases e : j = k
  · subst e
    rw [hb] at hc
    cases hc
    rw [if_pos (by omega), hn]
    rw [if_neg (by omega)] at this
    exact this
  · by_cases e2 : j < k
    · rw [if_pos (by omega)]; rw [if_pos e2] at this; exact this
    · rw [if_neg (by omega)]; rw [if_neg e2] at this; exact this
theorem LwR.put {w wr : World} {l : List UInt8} {k : Nat} (h : LwR w l k wr) {b : UInt8} (hb : l[k]? = some b) {v : Int} (hv : v = ((lowB b).toNat : Nat)) : LwR w l (k + 1) (wr.setCell ⟨w.heap.size, k, none⟩ (.int .u8 v)) := by
  have hin := h.cell k b hb
  refine ⟨fun j c hc => ?_, fun j hj => ?_, h.below.setCell (p := ⟨w.heap.size, k, none⟩) (Nat.le_refl _) _, by simpa using h.lt⟩
  · have := h.cell j c hc
    by_cases e : j = k
    · subst e
      rw [hb] at hc
      cases hc
      rw [if_pos (by omega), ← hv]
      exact World.cell?_setCell_same _ _ _ hin
    · rw [World.cell?_setCell_other _ _ _ _ (by intro e2; simp only [Addr.mk.injEq] at e2; exact e e2.2.1.symm)]
      by_cases e2 : j < k
      · rw [if_pos (by omega)]; rw [if_pos e2] at this; exact this
      · rw [if_neg (by omega)]; rw [if_neg e2] at this; exact this
  · rw [World.frozen?_setCell]; exact h.free j hj

set_option maxRecDepth 100000 in
set_option maxHeartbeats 4000000 in
theorem mapped_low (s : ByteArray) (hs : s.size ≤ 9000000000000000000) (w : World) :
    Calls Tryd.prog 51 #[.string s, .int .u8 65, .int .u8 90, .int .i64 32] w fun e w' => e = .returned (.string ⟨(s.data.toList.map lowB).toArray⟩) ∧ Below w.heap.size w w' := by
  have hc := run_bytes_of_string (P := Tryd.prog) w 9 73 5 s Tryd.underlying9 Tryd.underlying73 Tryd.underlying5
  have hst := LwR.start w s (grownCap w s.size 0 5) 5
  have hback := fun (wr : World) (h : LwR w s.data.toList s.data.toList.length wr) (cap : Nat) => run_convert_bytes_back (P := Tryd.prog) wr 73 9 5 ⟨w.heap.size, 0, none⟩ cap (s.data.toList.map lowB) Tryd.underlying73 Tryd.underlying5 Tryd.underlying9 (fun j hj => by
    have hj' : j < s.data.toList.length := by simpa using hj
    have := h.cell j s.data.toList[j] (List.getElem?_eq_getElem hj')
    rw [if_pos hj'] at this
    rw [Go.WideShapes.add_plain]
    simpa using this)
  have hsz : s.data.toList.length = s.size := Array.length_toList
  simp only [List.length_map, hsz] at hback
  have HBK := Lib.hid hback
  have HST := Lib.hid hst
  have HSZ := Lib.hid hsz
  clear hback hst hsz
  generalize w.drew.alloc (.cells (bytesRow s (grownCap w s.size 0 5)) 5 ((bytesRow s (grownCap w s.size 0 5)).size, (bytesRow s (grownCap w s.size 0 5)).size + 1)) = W at *
  generalize grownCap w s.size 0 5 = cap at *
  go_enter Tryd.func51, Tryd.ntmps51
  go_wp2_with fail
  go_loopw [16] (fun iv wr => ∃ k : Nat, k ≤ s.size ∧ iv = .int .i64 (k : Int) ∧ LwR w s.data.toList k wr) (fun iv _ => s.size - (intOf iv).toNat)
  case atStart => exact ⟨0, Nat.zero_le _, rfl, HST.out⟩
  case round =>
    clear hc
    obtain ⟨k, hk, rfl, hR⟩ := hrel
    by_cases hlt : k < s.size
    · have hkl : k < s.data.toList.length := by rw [HSZ.out]; exact hlt
      obtain ⟨b, hb⟩ : ∃ b, s.data.toList[k]? = some b := ⟨_, List.getElem?_eq_getElem hkl⟩
      have c0 := hR.cell k b hb
      rw [if_neg (by omega)] at c0
      have f0 := hR.free k hkl
      have hb256 : b.toNat < 256 := b.toNat_lt
      have HR := Lib.hid hR
      have HBB := Lib.hid hb
      clear hR hb hkl
      by_cases h1 : 65 ≤ b.toNat
      · have d1 : decide ((65 : Int) ≤ (b.toNat : Int)) = true := by simp; omega
        by_cases h2 : b.toNat ≤ 90
        · have d2 : decide ((b.toNat : Int) ≤ 90) = true := by simp; omega
          have hv : (b.toNat : Int) + 32 = ((lowB b).toNat : Nat) := by unfold lowB; rw [if_pos ⟨h1, h2⟩]; simp; omega
          have HV := Lib.hid hv
          clear hv
          go_wp2_with fail
          exact ⟨⟨k + 1, by omega, by go_num, HR.out.put HBB.out HV.out⟩, by simp [intOf]; omega⟩
        · have d2 : decide ((b.toNat : Int) ≤ 90) = false := by simp; omega
          have HV := Lib.hid (show lowB b = b by unfold lowB; rw [if_neg (by omega)])
          go_wp2_with fail
          exact ⟨⟨k + 1, by omega, by go_num, HR.out.skip HBB.out HV.out⟩, by simp [intOf]; omega⟩
      · have d1 : decide ((65 : Int) ≤ (b.toNat : Int)) = false := by simp; omega
        have HV := Lib.hid (show lowB b = b by unfold lowB; rw [if_neg (by omega)])
        go_wp2_with fail
        exact ⟨⟨k + 1, by omega, by go_num, HR.out.skip HBB.out HV.out⟩, by simp [intOf]; omega⟩
    · obtain rfl : k = s.size := by omega
      have hbk := HBK.out wr hR cap
      have HR := Lib.hid hR
      clear hR
      go_wp2_with fail
      go_ret
      exact ⟨rfl, HR.out.below⟩
theorem lower_bytes (s : ByteArray) (hs : s.size ≤ 9000000000000000000) (w : World) :
    Calls Tryd.prog 43 #[.string s] w fun e w' => e = .returned (.string ⟨(s.data.toList.map lowB).toArray⟩) ∧ Below w.heap.size w w' := by
  have H := Lib.hid (mapped_low s hs w)
  go_enter Tryd.func43, Tryd.ntmps43
  go_wp2_with fail
  refine H.out.mono ?_
  rintro e w' ⟨rfl, hb⟩
  go_wp2_with fail
  go_ret
  exact ⟨rfl, hb⟩
end Go.Proofs.YtfelmdkeaacfeaaDoor.W
