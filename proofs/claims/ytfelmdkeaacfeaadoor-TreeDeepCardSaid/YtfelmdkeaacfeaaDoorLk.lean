/- How the nodes of a tree hang together; the contract of Kids. -/
import Derived.Test.YtfelmdkeaacfeaaDoorAtT
import Derived.OwnWalk
import Derived.WalkSpells
namespace Go.Proofs.YtfelmdkeaacfeaaDoor.W
open Go.RowKit
set_option linter.unusedVariables false
set_option linter.unusedSimpArgs false

/-- the node of a slot -/
def Tr.at (S : Tr) (i : Nat) : Option Nd := (S.slots[i]?).join
theorem at_slot {S : Tr} {i : Nat} {n : Nd} (h : S.at i = some n) : S.slots[i]? = some (some n) := by
  unfold Tr.at at h
  cases e : S.slots[i]? with
  | none => rw [e] at h; cases h
  | some x => rw [e] at h; simp at h; rw [h]
theorem at_lt {S : Tr} {i : Nat} {n : Nd} (h : S.at i = some n) : i < S.slots.length := (List.getElem?_eq_some_iff.1 (at_slot h)).1
theorem at_of {S : Tr} {i : Nat} {n : Nd} (h : S.slots[i]? = some (some n)) : S.at i = some n := by unfold Tr.at; rw [h]; rfl
/-- the handle of a slot, 0 for none -/
def hO (S : Tr) : Option Nat → Int
  | none => 0
  | some i => S.hd i

/-- the links: K the children of each node, d how deep it stands -/
structure Lk (S : Tr) (K : Nat → List Nat) (d : Nat → Nat) : Prop where
  kin : ∀ p k, k ∈ K p → (S.at p).isSome = true ∧ (S.at k).isSome = true
  node : ∀ i n, S.at i = some n → n.first = hO S (K i)[0]? ∧ n.last = hO S (K i).getLast?
  kid : ∀ p j k n, (K p)[j]? = some k → S.at k = some n → n.parent = S.hd p ∧ n.prev = hO S (if j = 0 then none else (K p)[j - 1]?) ∧ n.next = hO S (K p)[j + 1]?
  top : ∀ i n, S.at i = some n → (∀ p, i ∉ K p) → n.parent = 0 ∧ n.prev = 0 ∧ n.next = 0
  nodup : ∀ p, (K p).Nodup
  dep : ∀ p k, k ∈ K p → d k = d p + 1
  one : ∀ i, (S.at i).isSome = true → (∀ p, i ∉ K p) → d i = 1
  low : ∀ i, d i ≤ 128
  few : S.slots.length ≤ 1000000

theorem Lk.some {S K d} (h : Lk S K d) {p j k : Nat} (hk : (K p)[j]? = some k) : ∃ n, S.at k = some n := Option.isSome_iff_exists.1 (h.kin p k (List.mem_of_getElem? hk)).2
theorem hd_ok {S K d} (h : Lk S K d) {i : Nat} {n : Nd} (hi : S.at i = some n) : HOk (S.hd i) ∧ 1 ≤ S.hd i := hdl_ok _ _ _ (by have := at_lt hi; have := h.few; omega)
theorem hd_ix {S K d} (h : Lk S K d) {i : Nat} {n : Nd} (hi : S.at i = some n) : S.ix (S.hd i) = some i := ix_hd (by have := h.few; omega) (at_slot hi)
theorem nodup_len : ∀ (n : Nat) (l : List Nat), l.Nodup → (∀ x ∈ l, x < n) → l.length ≤ n
  | 0, [], _, _ => Nat.le_refl _
  | 0, x :: l, _, h => absurd (h x (by simp)) (by omega)
  | n + 1, l, hn, h => by
    have ih := nodup_len n (l.erase n) (hn.erase n) (fun x hx => by
      have h1 := (hn.mem_erase_iff).1 hx
      have := h x h1.2
      omega)
    rw [List.length_erase] at ih
    split at ih <;> omega
theorem kids_len {S K d} (h : Lk S K d) (p : Nat) : (K p).length ≤ 1000000 := by
  have := nodup_len S.slots.length (K p) (h.nodup p) (fun k hk => by
    obtain ⟨n, hn⟩ := Option.isSome_iff_exists.1 (h.kin p k hk).2
    exact at_lt hn)
  have := h.few
  omega

theorem infoI : (Tryd.prog.info? 3).map (fun i => (i.zero, i.size, i.bytes)) = some (some (.int .i64 0), 1, 8) := by kernel_rfl
def hC (l : List Int) : List Value := l.map (Value.int .i64)
theorem cell_keep {w w' : World} (hb : Below w.heap.size w w') {a : Addr} {v : Value} (h : w.cell? a = some v) : w'.cell? a = some v := by
  rw [hb.cell (p := a) (World.block_lt_of_cell? w a h)]; exact h
theorem own_keepB {w w' : World} {B e sz n : Nat} {v : Value} {xs : List Value} (h : w.ownsRow B e sz v n xs) (hb : Below w.heap.size w w') : w'.ownsRow B e sz v n xs :=
  h.kept (row := none) ⟨hb.os, hb.tape, hb.output, hb.size, fun k hk _ => hb.block k hk⟩ (by cases e : v.ownBlock with | none => exact Or.inl rfl | some g => exact Or.inr (by simp))
def slen : Value → Nat
  | .slice _ k _ => k
  | _ => 0
theorem own_sl {w : World} {B e sz n : Nat} {v : Value} {xs : List Value} (h : w.ownsRow B e sz v n xs) : slen v = n := by
  rcases h.2 with ⟨rfl, e⟩ | ⟨g, cap, cur, rfl, _⟩
  · rw [e]; rfl
  · rfl
/-- a field of a node -/
theorem nd_cell {B R g cap : Nat} {S : Tr} {fv : Value} {w : World} (h : TAt B R S (.slice (some ⟨g, 0, none⟩) S.slots.length cap) fv w) {i : Nat} {n : Nd} (hn : S.at i = some n) (j : Nat) (hj : j < 9) :
    w.cell? ⟨g, i * 10 + 1 + j, none⟩ = (ndC n)[j]? := by
  have := slot_cell h (at_slot hn) (1 + j) (by omega)
  rw [← Nat.add_assoc] at this
  rw [this, Nat.add_comm 1 j]
  rfl

def KdR (w : World) (S : Tr) (l : List Nat) (ov kv : Value) (wr : World) : Prop :=
  ∃ (j : Nat) (v : Value), j ≤ l.length ∧ v = ov ∧ kv = .int .i64 (hO S l[j]?) ∧ wr.ownsRow w.heap.size 3 1 v j (hC ((l.take j).map S.hd)) ∧ Below w.heap.size w wr

set_option maxRecDepth 100000 in
set_option maxHeartbeats 4000000 in
theorem kids_any {B R g cap : Nat} {S : Tr} {fv : Value} {w : World} {K : Nat → List Nat} {d : Nat → Nat} (h : TAt B R S (.slice (some ⟨g, 0, none⟩) S.slots.length cap) fv w) (hL : Lk S K d) (i : Nat) (n : Nd) (hi : S.at i = some n) :
    Calls Tryd.prog 36 #[.pointer (some ⟨R, 0, none⟩), .int .i64 (S.hd i)] w fun e w' => ∃ v, e = .returned v ∧ w'.ownsRow w.heap.size 3 1 v (K i).length (hC ((K i).map S.hd)) ∧ Below w.heap.size w w' := by
  have HA := Lib.hid (at_some h (S.hd i) (hd_ok hL hi).1 (hd_ix hL hi))
  have HT := Lib.hid h
  have HL := Lib.hid hL
  have HI := Lib.hid hi
  have hkl := kids_len hL i
  have cf := nd_cell h hi 5 (by omega)
  simp only [ndC, List.getElem?_cons_succ, List.getElem?_cons_zero] at cf
  obtain ⟨i0, hi0, hz0, hz1, hz2⟩ := info_parts infoI
  rw [(hL.node i n hi).1] at cf
  clear h hL hi
  go_enter Tryd.func36, Tryd.ntmps36
  go_wp2_with fail
  refine HA.out.mono ?_
  rintro e w2 ⟨rfl, hb2⟩
  have cf2 := cell_keep hb2 cf
  clear cf
  go_wp2_with fail
  go_loopw [6, 7] (fun ov kv wr => KdR w S (K i) ov kv wr) (fun ov _ _ => (K i).length - slen ov)
  case atStart => exact ⟨0, _, by omega, rfl, rfl, World.ownsRow_nil _ _ _ _, hb2⟩
  case round =>
    obtain ⟨j, ov, hj, rfl, rfl, hown, hB⟩ := hrel
    by_cases hlt : j < (K i).length
    · obtain ⟨k, hk⟩ : ∃ k, (K i)[j]? = some k := ⟨_, List.getElem?_eq_getElem hlt⟩
      obtain ⟨nk, hnk⟩ := HL.out.some hk
      have hpos := (hd_ok HL.out hnk).2
      have hho := (hd_ok HL.out hnk).1
      have HA2 := Lib.hid (fun wx (hb : Below w.heap.size w wx) => at_some (HT.out.below hb) (S.hd k) hho (hd_ix HL.out hnk))
      have HC := Lib.hid (fun wx (hb : Below w.heap.size w wx) => nd_cell (HT.out.below hb) hnk 8 (by omega))
      have hnext := (HL.out.kid i j k nk hk hnk).2.2
      have HO := Lib.hid (show ∀ A, (wr.alloc A).ownsRow w.heap.size 3 1 ov j (hC (((K i).take j).map S.hd)) from fun A => hown.alloc A)
      have HTK := Lib.hid (show hC (((K i).take (j + 1)).map S.hd) = hC (((K i).take j).map S.hd) ++ [.int .i64 (S.hd k)] by
        unfold hC; rw [List.take_add_one, hk]; simp)
      have hlt2 := fun g (hg : ov.ownBlock = some g) => (hown.lt g hg).1
      have hne : ¬ S.hd k = 0 := by omega
      have hne2 : (S.hd k == 0) = false := by simpa using hne
      rw [hk, show hO S (Option.some k) = S.hd k from rfl]
      have hsl := own_sl hown
      clear hown
      generalize S.hd k = hk1 at *
      generalize hC (((K i).take j).map S.hd) = XS at *
      go_wp2_with (at_builtin; refine wpList_append_own _ rfl _ _ 28 rfl w.heap.size 3 i0 _ 1 8 Tryd.underlying28 hi0 hz0 hz1 hz2 rfl (by decide) _ j _ rfl (HO.out _) _ 1 1 [.int .i64 hk1] rfl rfl (cell_one_new _ _ _) (by simp [Value.oneCell']) ?c1 ?c2 ?c3 ?_)
      case c1 => unfold maxLen; omega
      case c2 => omega
      case c3 => have := hB.size; simp; omega
      intro v' w5 hown5 hgr5 _
      rw [← HTK.out] at hown5
      have hB5 : Below w.heap.size w w5 := (hB.alloc hB.size _).grown hgr5 (by have := hB.size; simp; omega) hlt2
      have HW := Lib.hid hown5
      clear hown5 hgr5
      go_wp2_with fail
      refine (HA2.out _ hB5).mono ?_
      rintro e w6 ⟨rfl, hb6⟩
      have hB6 := hB5.trans (hb6.mono hB5.size)
      have c8 := HC.out _ hB6
      rw [show (ndC nk)[8]? = Option.some (.int .i64 nk.next) from rfl, hnext] at c8
      have hsl6 := own_sl HW.out
      have HW6 := Lib.hid (own_keepB HW.out hb6)
      clear HW
      go_wp2_with fail
      exact ⟨⟨j + 1, _, by omega, rfl, rfl, HW6.out, hB6⟩, by rw [hsl, hsl6]; omega⟩
    · obtain rfl : j = (K i).length := by omega
      rw [show (K i)[(K i).length]? = none from List.getElem?_eq_none (Nat.le_refl _)]
      rw [List.take_length] at hown
      have HW := Lib.hid hown
      clear hown
      rw [show hO S none = 0 from rfl]
      go_wp2_with fail
      go_ret
      exact ⟨_, rfl, HW.out, hB⟩
end Go.Proofs.YtfelmdkeaacfeaaDoor.W
