/- The contract of family. -/
import Derived.Test.YtfelmdkeaacfeaaDoorIns
import Derived.BigQuiet
namespace Go.Proofs.YtfelmdkeaacfeaaDoor.W
open Go.RowKit
set_option linter.unusedVariables false
set_option linter.unusedSimpArgs false

theorem sub_len : ∀ (l m : List Nat), l.Nodup → (∀ x ∈ l, x ∈ m) → l.length ≤ m.length
  | [], m, _, _ => Nat.zero_le _
  | x :: l, m, hl, h => by
    rw [List.nodup_cons] at hl
    have hx := h x (by simp)
    have ih := sub_len l (m.erase x) hl.2 (fun y hy => (List.mem_erase_of_ne (by rintro rfl; exact hl.1 hy)).2 (h y (by simp [hy])))
    rw [List.length_erase_of_mem hx] at ih
    have := List.length_pos_of_mem hx
    rw [List.length_cons]
    omega
theorem kids_live {S K d} (h : Lk S K d) (p : Nat) : (K p).length ≤ S.live := by
  rw [show S.live = _ from live_range S.slots]
  refine sub_len _ _ (h.nodup p) (fun x hx => ?_)
  have hs := (h.kin p x hx).2
  rw [List.mem_filter, List.mem_range]
  obtain ⟨n, hn⟩ := Option.isSome_iff_exists.1 hs
  exact ⟨at_lt hn, hs⟩

def FmR (w : World) (S : Tr) (l : List Nat) (ov lv kv : Value) (wr : World) : Prop :=
  ∃ (j : Nat) (v : Value), j ≤ l.length ∧ v = ov ∧ lv = .int .i64 (hO S (pv l j)) ∧ kv = .int .i64 (hO S l[j]?) ∧ wr.ownsRow w.heap.size 3 1 v j (hC ((l.take j).map S.hd)) ∧ Below w.heap.size w wr

set_option maxRecDepth 100000 in
set_option maxHeartbeats 4000000 in
theorem family_any {B R g cap : Nat} {S : Tr} {fv : Value} {w : World} {K : Nat → List Nat} {d : Nat → Nat} (h : TAt B R S (.slice (some ⟨g, 0, none⟩) S.slots.length cap) fv w) (hL : Lk S K d) (i : Nat) (n : Nd) (hi : S.at i = some n) :
    Calls Tryd.prog 40 #[.pointer (some ⟨R, 0, none⟩), .int .i64 (S.hd i)] w fun e w' => ∃ v, e = .returned (.tuple #[v, .bool true]) ∧ w'.ownsRow w.heap.size 3 1 v (K i).length (hC ((K i).map S.hd)) ∧ Below w.heap.size w w' := by
  have HA := Lib.hid (at_some h (S.hd i) (hd_ok hL hi).1 (hd_ix hL hi))
  have HT := Lib.hid h
  have HL := Lib.hid hL
  have HI := Lib.hid hi
  have hkl := kids_len hL i
  have hkv := kids_live hL i
  have cf := nd_cell h hi 5 (by omega)
  have cl := nd_cell h hi 6 (by omega)
  simp only [ndC, List.getElem?_cons_succ, List.getElem?_cons_zero] at cf cl
  obtain ⟨i0, hi0, hz0, hz1, hz2⟩ := info_parts infoI
  rw [(hL.node i n hi).1] at cf
  rw [(hL.node i n hi).2, ← pv_last] at cl
  clear h hL hi
  go_enter Tryd.func40, Tryd.ntmps40
  go_wp2_with fail
  refine HA.out.mono ?_
  rintro e w2 ⟨rfl, hb2⟩
  have cf2 := cell_keep hb2 cf
  clear cf
  go_wp2_with fail
  go_loopw [7, 8, 9] (fun ov lv kv wr => FmR w S (K i) ov lv kv wr) (fun ov _ _ _ => (K i).length - slen ov)
  case atStart => exact ⟨0, _, by omega, rfl, rfl, rfl, World.ownsRow_nil _ _ _ _, hb2⟩
  case round =>
    obtain ⟨j, ov, hj, rfl, rfl, rfl, hown, hB⟩ := hrel
    by_cases hlt : j < (K i).length
    · obtain ⟨k, hk⟩ : ∃ k, (K i)[j]? = some k := ⟨_, List.getElem?_eq_getElem hlt⟩
      obtain ⟨nk, hnk⟩ := HL.out.some hk
      have hpos := (hd_ok HL.out hnk).2
      have hho := (hd_ok HL.out hnk).1
      have HA2 := Lib.hid (fun wx (hb : Below w.heap.size w wx) => at_some (HT.out.below hb) (S.hd k) hho (hd_ix HL.out hnk))
      have HC := Lib.hid (fun wx (hb : Below w.heap.size w wx) => nd_cell (HT.out.below hb) hnk 8 (by omega))
      obtain ⟨hpar, hprev, hnext⟩ := HL.out.kid i j k nk hk hnk
      have hprev : nk.prev = hO S (pv (K i) j) := hprev
      have HN := Lib.hid (show hO S (pv (K i) (j + 1)) = S.hd k by unfold pv; rw [if_neg (by omega), Nat.add_sub_cancel, hk]; rfl)
      have H4 := Lib.hid (fun wx (hb : Below w.heap.size w wx) => (nd_cell (HT.out.below hb) hnk 4 (by omega)).trans (show _ = Option.some (Value.int .i64 (S.hd i)) by rw [← hpar]; rfl))
      have H7 := Lib.hid (fun wx (hb : Below w.heap.size w wx) => (nd_cell (HT.out.below hb) hnk 7 (by omega)).trans (show _ = Option.some (Value.int .i64 (hO S (pv (K i) j))) by rw [← hprev]; rfl))
      have HLN := Lib.hid (fun wx (hb : Below w.heap.size w wx) => len_any (HT.out.below hb))
      have HTK := Lib.hid (show hC (((K i).take (j + 1)).map S.hd) = hC (((K i).take j).map S.hd) ++ [.int .i64 (S.hd k)] by
        unfold hC; rw [List.take_add_one, hk]; simp)
      have hne : ¬ S.hd k = 0 := by omega
      have hne2 : (S.hd k == 0) = false := by simpa using hne
      rw [hk, show hO S (Option.some k) = S.hd k from rfl]
      have hsl := own_sl hown
      obtain ⟨oa, oc, rfl⟩ := own_shapeB hown
      have HO := Lib.hid hown
      have d8 : decide ((S.live : Int) < (j : Int)) = false := by simp; omega
      clear hown hpar hprev hsl
      generalize S.hd k = hk1 at *
      generalize hO S (pv (K i) j) = hp1 at *
      generalize S.hd i = hi1 at *
      generalize hC (((K i).take j).map S.hd) = XS at *
      go_wp2_with fail
      refine (HA2.out _ hB).mono ?_
      rintro e w3 ⟨rfl, hb3⟩
      have hB3 := hB.trans (hb3.mono hB.size)
      have c4 := H4.out _ hB3
      have c7 := H7.out _ hB3
      have hlt2 := fun g (hg : (Value.slice oa j oc).ownBlock = some g) => (HO.out.lt g hg).1
      have HO3 := Lib.hid (own_keepB HO.out hb3)
      clear HO
      go_wp2_with fail
      refine (HLN.out _ hB3).mono ?_
      rintro e w4 ⟨rfl, hw⟩
      rw [hw]
      clear hw c4 c7
      have HO4 := Lib.hid (show ∀ A, (w3.alloc A).ownsRow w.heap.size 3 1 (.slice oa j oc) j XS from fun A => HO3.out.alloc A)
      go_wp2_with (at_builtin; refine wpList_append_own _ rfl _ _ 28 rfl w.heap.size 3 i0 _ 1 8 Tryd.underlying28 hi0 hz0 hz1 hz2 rfl (by decide) _ j _ rfl (HO4.out _) _ 1 1 [.int .i64 hk1] rfl rfl (cell_one_new _ _ _) (by simp [Value.oneCell']) ?c1 ?c2 ?c3 ?_)
      case c1 => unfold maxLen; omega
      case c2 => omega
      case c3 => have := hB3.size; simp; omega
      intro v' w5 hown5 hgr5 _
      rw [← HTK.out] at hown5
      have hB5 : Below w.heap.size w w5 := (hB3.alloc hB3.size _).grown hgr5 (by have := hB3.size; simp; omega) hlt2
      have HW := Lib.hid hown5
      clear hown5 hgr5
      go_wp2_with fail
      refine (HA2.out _ hB5).mono ?_
      rintro e w6 ⟨rfl, hb6⟩
      have hB6 := hB5.trans (hb6.mono hB5.size)
      have c8 := HC.out _ hB6
      rw [show (ndC nk)[8]? = Option.some (.int .i64 nk.next) from rfl, hnext] at c8
      have hsl6 := own_sl HW.out
      have HW6 := Lib.hid (own_keepB HW.out hb6)
      clear HW
      go_wp2_with fail
      exact ⟨⟨j + 1, _, by omega, rfl, by rw [HN.out], rfl, HW6.out, hB6⟩, by rw [hsl6]; simp only [slen]; omega⟩
    · obtain rfl : j = (K i).length := by omega
      rw [show (K i)[(K i).length]? = none from List.getElem?_eq_none (Nat.le_refl _)]
      rw [List.take_length] at hown
      have cl2 := cell_keep hB cl
      have HW := Lib.hid hown
      clear hown
      rw [show hO S none = 0 from rfl]
      generalize hO S (pv (K i) (K i).length) = hp1 at *
      go_wp2_with fail
      go_quiet (fail)
      all_goals (go_wp2_with fail)
      go_ret2
      exact ⟨_, rfl, own_keepB HW.out (Below.drewN (Below.refl _ _) _), Below.drewN hB _⟩
end Go.Proofs.YtfelmdkeaacfeaaDoor.W
