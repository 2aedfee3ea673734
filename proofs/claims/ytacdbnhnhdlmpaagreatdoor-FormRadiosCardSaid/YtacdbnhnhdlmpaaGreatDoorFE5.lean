/- Texts joined: Set LinkP CutP Reg. -/
import Derived.Test.YtacdbnhnhdlmpaaGreatDoorFE4
import Derived.Deep.RegionHeld3
import Derived.BigQuiet
import Derived.WalkKit
set_option maxRecDepth 100000
set_option maxHeartbeats 40000000
set_option linter.unusedVariables false
set_option linter.unusedSimpArgs false
section
namespace Go.Proofs.YtacdbnhnhdlmpaaGreatDoor.W
open Go.RowKit
theorem own_setB {w : World} {B e size g n cap : Nat} {xs : List Value} (h : w.ownsRow B e size (.slice (some ⟨g, 0, none⟩) n cap) n xs) (j : Nat) (u : Value) : (w.setCell ⟨g, j, none⟩ u).ownsRow B e size (.slice (some ⟨g, 0, none⟩) n cap) n (xs.set j u) := by
  have hB := (h.lt g rfl).1
  have h0 := own_set (own_low h (Nat.zero_le B)) j u
  refine ⟨h0.1, ?_⟩
  rcases h0.2 with ⟨e, _⟩ | ⟨g', cap', cur, e, _, rest⟩
  · cases e
  · cases e
    exact .inr ⟨g, cap, cur, rfl, hB, rest⟩
def Tr.put (S : Tr) (i : Nat) (n : Nd) : Tr := { S with slots := S.slots.set i (some n) }
theorem live_put {S : Tr} {i : Nat} {n n' : Nd} (h : S.at i = some n) : (S.put i n').live = S.live := by
  have hs := at_slot h
  unfold Tr.live Tr.put
  simp only []
  generalize S.slots = l at hs ⊢
  clear h
  induction l generalizing i with
  | nil => simp at hs
  | cons x l ih =>
    cases i with
    | zero => simp at hs; subst hs; simp
    | succ i =>
      have := ih (by simpa using hs : l[i]? = some (some n))
      simp only [List.set_cons_succ, List.filter_cons]
      split <;> simp [this]
theorem blk_ne {w : World} {g h : Nat} {cs cs' : Array Value} {t t' : TypeId} {f f' : Nat × Nat} (h1 : w.heap[g]? = some (.cells cs t f)) (h2 : w.heap[h]? = some (.cells cs' t' f')) (ht : t ≠ t') : g ≠ h := by
  rintro rfl
  rw [h1] at h2
  simp only [Option.some.injEq, Obj.cells.injEq] at h2
  exact ht h2.2.1
theorem TAt.setF {B R g cap : Nat} {S : Tr} {fv : Value} {w : World} (h : TAt B R S (.slice (some ⟨g, 0, none⟩) S.slots.length cap) fv w) {i : Nat} {n n' : Nd} (hi : S.at i = some n) (j : Nat) (u : Value) (hj : j < 9)
    (hn : ndC n' = (ndC n).set j u) (hav : n'.av = n.av) (hat : n'.attrs = n.attrs) :
    TAt B R (S.put i n') (.slice (some ⟨g, 0, none⟩) (S.put i n').slots.length cap) fv (w.setCell ⟨g, i * 10 + 1 + j, none⟩ u) := by
  have hlt := at_lt hi
  have hlen : (S.put i n').slots.length = S.slots.length := by unfold Tr.put; simp
  obtain ⟨cur, hg⟩ : ∃ cur, w.heap[g]? = some (.cells cur 182 (0, 0)) := by
    rcases h.slots.2 with ⟨e, _⟩ | ⟨g', cap', cur, e, _, hh, _⟩
    · cases e
    · cases e; exact ⟨cur, hh⟩
  have other : ∀ {k : Nat} {cs : Array Value} {t : TypeId}, w.heap[k]? = some (.cells cs t (0, 0)) → 182 ≠ t → (w.setCell ⟨g, i * 10 + 1 + j, none⟩ u).heap[k]? = w.heap[k]? := fun hk ht => Below.heap_setCell _ _ _ _ (fun e => blk_ne hg hk ht e.symm)
  rw [hlen]
  refine ⟨?_, ?_, ?_, ?_, h.base, by rw [hlen]; exact h.few⟩
  · have := h.blk.kept (other h.blk (by decide))
    rw [live_put hi]
    exact this
  · rw [hlen]
    have := own_setB h.slots (i * 10 + 1 + j) u
    have e : rowC (S.put i n').slots = (rowC S.slots).set (i * 10 + 1 + j) u := by
      have := rowC_set S.slots i (some n') hlt (1 + j) u (by omega) (some n) (at_slot hi) (by
        show Value.bool true :: ndC n' = (Value.bool true :: ndC n).set (1 + j) u
        rw [hn, Nat.add_comm 1 j]; rfl)
      rw [← Nat.add_assoc] at this
      exact this
    rw [e]
    exact this
  · obtain ⟨h1, h2⟩ := h.free
    refine ⟨h1, h2.imp id fun ⟨g', cap', cur', e1, e2, e3, rest⟩ => ⟨g', cap', cur', e1, e2, (other e3 (by decide)).trans e3, rest⟩⟩
  · intro k m hk
    have hcase : (k = i ∧ m = n') ∨ S.slots[k]? = some (some m) := by
      unfold Tr.put at hk
      simp only [] at hk
      by_cases e : i = k
      · subst e
        rw [List.getElem?_set_self hlt] at hk
        left; exact ⟨rfl, by simpa using hk.symm⟩
      · rw [List.getElem?_set_ne e] at hk
        right; exact hk
    have hold : AttrAt B w m.av m.attrs := by
      rcases hcase with ⟨rfl, rfl⟩ | hk
      · rw [hav, hat]; exact h.attrs k n (at_slot hi)
      · exact h.attrs k m hk
    obtain ⟨a, cp, e, hx⟩ := hold
    exact ⟨a, cp, e, hx.imp id fun ⟨g', cur', e1, e2, e3, e4⟩ => ⟨g', cur', e1, e2, (other e3 (by decide)).trans e3, e4⟩⟩
theorem at_put {S : Tr} {i : Nat} {n n' : Nd} (hi : S.at i = some n) (k : Nat) : (S.put i n').at k = if k = i then some n' else S.at k := by
  have hlt := at_lt hi
  unfold Tr.at Tr.put
  simp only []
  rw [List.getElem?_set]
  by_cases e : i = k
  · subst e; simp [hlt]
  · rw [if_neg e, if_neg (fun h => e h.symm)]
end Go.Proofs.YtacdbnhnhdlmpaaGreatDoor.W
end
section
namespace Go.Proofs.YtacdbnhnhdlmpaaGreatDoor.W
def linkN (S : Tr) (l : List Nat) (p j c x : Nat) (n : Nd) : Nd :=
  { n with
    parent := if x = c then S.hd p else n.parent
    prev := if x = c then hO S (pv l j) else if l[j]? = some x then S.hd c else n.prev
    next := if x = c then hO S l[j]? else if pv l j = some x then S.hd c else n.next
    first := if x = p ∧ j = 0 then S.hd c else n.first
    last := if x = p ∧ j = l.length then S.hd c else n.last }
def linkK (K : Nat → List Nat) (p j c : Nat) (q : Nat) : List Nat := if q = p then (K p).take j ++ c :: (K p).drop j else K q
theorem ins_at (l : List Nat) (j c i : Nat) (hj : j ≤ l.length) : (l.take j ++ c :: l.drop j)[i]? = if i < j then l[i]? else if i = j then some c else l[i - 1]? := by
  by_cases h1 : i < j
  · rw [if_pos h1, List.getElem?_append_left (by rw [List.length_take]; omega), List.getElem?_take, if_pos h1]
  · rw [if_neg h1, List.getElem?_append_right (by rw [List.length_take]; omega), List.length_take, Nat.min_eq_left hj]
    by_cases h2 : i = j
    · rw [if_pos h2, h2, Nat.sub_self]; rfl
    · rw [if_neg h2, show i - j = (i - 1 - j) + 1 by omega, List.getElem?_cons_succ, List.getElem?_drop]
      congr 1; omega
theorem Lk.one_par {S K d} (h : Lk S K d) {p q x : Nat} (hp : x ∈ K p) (hq : x ∈ K q) : p = q := by
  obtain ⟨n, hn⟩ := Option.isSome_iff_exists.1 (h.kin p x hp).2
  obtain ⟨np, hnp⟩ := Option.isSome_iff_exists.1 (h.kin p x hp).1
  obtain ⟨nq, hnq⟩ := Option.isSome_iff_exists.1 (h.kin q x hq).1
  obtain ⟨i, hi⟩ := List.mem_iff_getElem?.1 hp
  obtain ⟨j, hj⟩ := List.mem_iff_getElem?.1 hq
  have h1 := (h.kid p i x n hi hn).1
  have h2 := (h.kid q j x n hj hn).1
  have := h.few
  have a := at_lt hnp
  have b := at_lt hnq
  exact hdl_inj (by omega) (by omega) (h1.symm.trans h2)
set_option maxHeartbeats 1000000 in
theorem Lk.link {S S' : Tr} {K : Nat → List Nat} {d d' : Nat → Nat} (h : Lk S K d) {p j c : Nat} {np nc : Nd} (hp : S.at p = Option.some np) (hc : S.at c = Option.some nc) (hj : j ≤ (K p).length)
    (hdet : ∀ q, c ∉ K q) (hpc : p ≠ c)
    (hat : ∀ x, S'.at x = (S.at x).map (linkN S (K p) p j c x)) (hlen : S'.slots.length = S.slots.length) (hhd : ∀ x, S'.hd x = S.hd x)
    (hd1 : d' c = d p + 1) (hd2 : ∀ q k, k ∈ K q → d' k = d' q + 1) (hd3 : d' p = d p) (hd4 : ∀ x, d' x ≤ 128) (hd5 : ∀ x, (S.at x).isSome = true → x ≠ c → (∀ q, x ∉ K q) → d' x = 1) : Lk S' (linkK K p j c) d' := by
  have hO' : ∀ o, hO S' o = hO S o := fun o => by cases o with | none => rfl | some x => exact hhd x
  have hsome : ∀ x, (S'.at x).isSome = (S.at x).isSome := fun x => by rw [hat]; cases S.at x <;> rfl
  have hmem : ∀ q k, k ∈ linkK K p j c q ↔ (k ∈ K q ∨ (q = p ∧ k = c)) := by
    intro q k
    unfold linkK
    by_cases e : q = p
    · subst e
      rw [if_pos rfl, List.mem_append, List.mem_cons]
      constructor
      · rintro (h | rfl | h)
        · exact .inl (List.mem_of_mem_take h)
        · exact .inr ⟨rfl, rfl⟩
        · exact .inl (List.mem_of_mem_drop h)
      · rintro (h | ⟨_, rfl⟩)
        · rw [← List.take_append_drop j (K q), List.mem_append] at h
          rcases h with h | h
          · exact .inl h
          · exact .inr (.inr h)
        · exact .inr (.inl rfl)
    · rw [if_neg e]
      simp [e]
  have hcK : ∀ (i : Nat), (K p)[i]? ≠ Option.some c := fun i e => hdet p (List.mem_of_getElem? e)
  refine ⟨?_, ?_, ?_, ?_, ?_, ?_, ?_, hd4, by rw [hlen]; exact h.few⟩
  · intro q k hk
    rw [hsome, hsome]
    rcases (hmem q k).1 hk with hk | ⟨rfl, rfl⟩
    · exact h.kin q k hk
    · exact ⟨by rw [hp]; rfl, by rw [hc]; rfl⟩
  · intro x n' hx
    rw [hat] at hx
    obtain ⟨n, hn, rfl⟩ := Option.map_eq_some_iff.1 hx
    obtain ⟨h1, h2⟩ := h.node x n hn
    rw [hO', hO']
    unfold linkN linkK
    simp only []
    by_cases e : x = p
    · subst e
      rw [if_pos rfl, ins_at _ _ _ _ hj]
      constructor
      · by_cases j0 : j = 0
        · subst j0; simp [hO]
        · rw [if_neg (fun h => j0 h.2), if_pos (by omega)]; exact h1
      · rw [List.getLast?_append]
        by_cases jl : j = (K x).length
        · subst jl; simp [hO]
        · rw [if_neg (fun h => jl h.2), h2]
          have hdn : (K x).drop j ≠ [] := fun e => by
            have := congrArg List.length e
            rw [List.length_drop] at this
            simp at this; omega
          rw [List.getLast?_cons, List.getLast?_drop, if_neg (by omega)]
          cases e2 : (K x).getLast? with
          | none => rw [List.getLast?_eq_none_iff] at e2; rw [e2] at hdn; simp at hdn
          | some y => simp
    · rw [if_neg e, if_neg (fun h => e h.1), if_neg (fun h => e h.1)]
      exact ⟨h1, h2⟩
  · intro q i k n' hk hx
    rw [hat] at hx
    obtain ⟨n, hn, rfl⟩ := Option.map_eq_some_iff.1 hx
    rw [hO', hO', hhd]
    unfold linkK at hk ⊢
    by_cases e : q = p
    · subst e
      rw [if_pos rfl] at hk ⊢
      rw [ins_at _ _ _ _ hj] at hk
      rw [ins_at _ _ _ _ hj, ins_at _ _ _ _ hj]
      have hinj : ∀ {i i' : Nat} {x : Nat}, (K q)[i]? = Option.some x → (K q)[i']? = Option.some x → i' = i := fun {i i' x} e1 e2 => by
        have hl' := (List.getElem?_eq_some_iff.1 e2).1
        exact (List.getElem?_inj hl' (h.nodup q)).1 (e2.trans e1.symm)
      unfold linkN
      simp only []
      by_cases i1 : i < j
      · rw [if_pos i1] at hk
        obtain ⟨a1, a2, a3⟩ := h.kid q i k n hk hn
        have hkc : k ≠ c := fun e => hcK i (e ▸ hk)
        rw [if_neg hkc, if_neg hkc, if_neg hkc]
        refine ⟨a1, ?_, ?_⟩
        · rw [if_neg (fun e' => by have := hinj hk e'; omega), a2]
          by_cases i0 : i = 0
          · rw [if_pos i0, if_pos i0]
          · rw [if_neg i0, if_neg i0, if_pos (by omega)]
        · by_cases ij : i + 1 = j
          · rw [if_pos (by unfold pv; rw [if_neg (by omega), show j - 1 = i by omega]; exact hk), if_neg (by omega), if_pos ij]; rfl
          · rw [if_neg (fun e' => by
              unfold pv at e'
              split at e'
              · cases e'
              · have := hinj hk e'; omega), a3, if_pos (by omega)]
      · rw [if_neg i1] at hk
        by_cases i2 : i = j
        · subst i2
          rw [if_pos rfl] at hk
          cases hk
          rw [if_pos rfl, if_pos rfl, if_pos rfl]
          refine ⟨rfl, ?_, ?_⟩
          · unfold pv
            by_cases i0 : i = 0
            · rw [if_pos i0, if_pos i0]
            · rw [if_neg i0, if_neg i0, if_pos (by omega)]
          · rw [if_neg (by omega), if_neg (by omega), Nat.add_sub_cancel]
        · rw [if_neg i2] at hk
          obtain ⟨a1, a2, a3⟩ := h.kid q (i - 1) k n hk hn
          have hkc : k ≠ c := fun e => hcK _ (e ▸ hk)
          rw [if_neg hkc, if_neg hkc, if_neg hkc]
          refine ⟨a1, ?_, ?_⟩
          · rw [if_neg (by omega : ¬ i = 0)]
            by_cases ij : i - 1 = j
            · rw [if_pos (by rw [← ij]; exact hk), if_neg (by omega), if_pos ij]; rfl
            · rw [if_neg (fun e' => by have := hinj hk e'; omega), a2, if_neg (by omega), if_neg (by omega), if_neg ij]
          · rw [if_neg (fun e' => by
              unfold pv at e'
              split at e'
              · cases e'
              · have := hinj hk e'; omega), a3, if_neg (by omega), if_neg (by omega), show i + 1 - 1 = i - 1 + 1 by omega]
    · rw [if_neg e] at hk ⊢
      obtain ⟨a1, a2, a3⟩ := h.kid q i k n hk hn
      have hkc : k ≠ c := fun e' => hdet q (e' ▸ List.mem_of_getElem? hk)
      have hnp : ∀ i', (K p)[i']? ≠ Option.some k := fun i' e' => e (h.one_par (List.mem_of_getElem? hk) (List.mem_of_getElem? e'))
      unfold linkN
      simp only []
      rw [if_neg hkc, if_neg hkc, if_neg hkc, if_neg (hnp j), if_neg (c := pv (K p) j = Option.some k) (fun e' => by
        unfold pv at e'
        split at e'
        · cases e'
        · exact hnp _ e')]
      exact ⟨a1, a2, a3⟩
  · intro x n' hx hx2
    rw [hat] at hx
    obtain ⟨n, hn, rfl⟩ := Option.map_eq_some_iff.1 hx
    have hxc : x ≠ c := fun e => hx2 p ((hmem p x).2 (.inr ⟨rfl, e⟩))
    have hxK : ∀ q, x ∉ K q := fun q hq => hx2 q ((hmem q x).2 (.inl hq))
    obtain ⟨a1, a2, a3⟩ := h.top x n hn hxK
    unfold linkN
    simp only []
    rw [if_neg hxc, if_neg hxc, if_neg hxc, if_neg (fun e' => hxK p (List.mem_of_getElem? e')), if_neg (fun e' => by
      unfold pv at e'
      split at e'
      · cases e'
      · exact hxK p (List.mem_of_getElem? e'))]
    exact ⟨a1, a2, a3⟩
  · intro q
    unfold linkK
    by_cases e : q = p
    · rw [if_pos e]
      have hnd := h.nodup p
      rw [← List.take_append_drop j (K p), List.nodup_append] at hnd
      rw [List.nodup_append]
      refine ⟨hnd.1, ?_, ?_⟩
      · rw [List.nodup_cons]
        exact ⟨fun hh => hdet p (List.mem_of_mem_drop hh), hnd.2.1⟩
      · intro a ha b hb
        rw [List.mem_cons] at hb
        rcases hb with rfl | hb
        · rintro rfl; exact hdet p (List.mem_of_mem_take ha)
        · exact hnd.2.2 a ha b hb
    · rw [if_neg e]; exact h.nodup q
  · intro q k hk
    rcases (hmem q k).1 hk with hk | ⟨rfl, rfl⟩
    · exact hd2 q k hk
    · rw [hd1, hd3]
  · intro x hx hxK
    rw [hsome] at hx
    exact hd5 x hx (fun e => hxK p ((hmem p x).2 (.inr ⟨rfl, e⟩))) (fun q hq => hxK q ((hmem q x).2 (.inl hq)))
structure Linked (S S' : Tr) (l : List Nat) (p j c : Nat) : Prop where
  at_ : ∀ x, S'.at x = (S.at x).map (linkN S l p j c x)
  len : S'.slots.length = S.slots.length
  b : S'.b = S.b
  s : S'.s = S.s
  free : S'.free = S.free
  root : S'.root = S.root
theorem Linked.hd {S S' : Tr} {l : List Nat} {p j c : Nat} (h : Linked S S' l p j c) (x : Nat) : S'.hd x = S.hd x := by unfold Tr.hd; rw [h.b, h.s]
def cutN (S : Tr) (l : List Nat) (p j c x : Nat) (n : Nd) : Nd :=
  { n with
    parent := if x = c then 0 else n.parent
    prev := if x = c then 0 else if l[j + 1]? = some x then hO S (pv l j) else n.prev
    next := if x = c then 0 else if pv l j = some x then hO S l[j + 1]? else n.next
    first := if x = p ∧ j = 0 then hO S l[j + 1]? else n.first
    last := if x = p ∧ j + 1 = l.length then hO S (pv l j) else n.last }
def cutK (K : Nat → List Nat) (p j : Nat) (q : Nat) : List Nat := if q = p then (K p).eraseIdx j else K q
structure Cutd (S S' : Tr) (l : List Nat) (p j c : Nat) : Prop where
  at_ : ∀ x, S'.at x = (S.at x).map (cutN S l p j c x)
  len : S'.slots.length = S.slots.length
  b : S'.b = S.b
  s : S'.s = S.s
  free : S'.free = S.free
  root : S'.root = S.root
theorem Cutd.hd {S S' : Tr} {l : List Nat} {p j c : Nat} (h : Cutd S S' l p j c) (x : Nat) : S'.hd x = S.hd x := by unfold Tr.hd; rw [h.b, h.s]
theorem Lk.inj {S K d} (h : Lk S K d) {q i i' x : Nat} (e1 : (K q)[i]? = Option.some x) (e2 : (K q)[i']? = Option.some x) : i' = i :=
  (List.getElem?_inj (List.getElem?_eq_some_iff.1 e2).1 (h.nodup q)).1 (e2.trans e1.symm)
theorem Lk.self {S K d} (h : Lk S K d) {p : Nat} : p ∉ K p := fun hk => by have := h.dep p p hk; omega
theorem Lk.pos1 {S K d} (h : Lk S K d) {x : Nat} (hx : (S.at x).isSome = true) : 1 ≤ d x := by
  by_cases e : ∃ p, x ∈ K p
  · obtain ⟨p, hp⟩ := e; have := h.dep p x hp; omega
  · rw [h.one x hx (fun p hp => e ⟨p, hp⟩)]; exact Nat.le_refl _
theorem cut_mem {S K d} (h : Lk S K d) {p j c : Nat} (hj : (K p)[j]? = some c) (q k : Nat) : k ∈ cutK K p j q ↔ (k ∈ K q ∧ k ≠ c) := by
  unfold cutK
  have hjl := (List.getElem?_eq_some_iff.1 hj).1
  by_cases e : q = p
  · subst e
    rw [if_pos rfl, List.mem_eraseIdx_iff_getElem?]
    constructor
    · rintro ⟨i, hi, hk⟩
      exact ⟨List.mem_of_getElem? hk, fun e => hi (by subst e; exact h.inj hj hk)⟩
    · rintro ⟨hk, hc⟩
      obtain ⟨i, hi⟩ := List.mem_iff_getElem?.1 hk
      exact ⟨i, fun e => hc (by subst e; rw [hj] at hi; cases hi; rfl), hi⟩
  · rw [if_neg e]
    exact ⟨fun hk => ⟨hk, fun e' => e (h.one_par (e' ▸ hk) (List.mem_of_getElem? hj))⟩, fun hk => hk.1⟩
set_option maxHeartbeats 1000000 in
theorem Lk.cut {S S' : Tr} {K : Nat → List Nat} {d d' : Nat → Nat} (h : Lk S K d) {p j c : Nat} (hj : (K p)[j]? = Option.some c) (hk : Cutd S S' (K p) p j c)
    (hd2 : ∀ q k, k ∈ K q → k ≠ c → d' k = d' q + 1) (hd1 : d' c = 1) (hd4 : ∀ x, d' x ≤ 128) (hd5 : ∀ x, (S.at x).isSome = true → (∀ q, x ∉ K q) → d' x = 1) : Lk S' (cutK K p j) d' := by
  have hO' : ∀ o, hO S' o = hO S o := fun o => by cases o with | none => rfl | some x => exact hk.hd x
  have hsome : ∀ x, (S'.at x).isSome = (S.at x).isSome := fun x => by rw [hk.at_]; cases S.at x <;> rfl
  have hmem := cut_mem h hj
  have hjl := (List.getElem?_eq_some_iff.1 hj).1
  have hcp := List.mem_of_getElem? hj
  have hpc : p ≠ c := fun e => h.self (e ▸ hcp : p ∈ K p)
  have hel := fun i => List.getElem?_eraseIdx (l := K p) (i := j) (j := i)
  refine ⟨?_, ?_, ?_, ?_, ?_, ?_, ?_, hd4, by rw [hk.len]; exact h.few⟩
  · intro q k hq
    rw [hsome, hsome]
    exact h.kin q k ((hmem q k).1 hq).1
  · intro x n' hx
    rw [hk.at_] at hx
    obtain ⟨n, hn, rfl⟩ := Option.map_eq_some_iff.1 hx
    obtain ⟨h1, h2⟩ := h.node x n hn
    rw [hO', hO']
    unfold cutN cutK
    simp only []
    by_cases e : x = p
    · subst e
      rw [if_pos rfl, List.getLast?_eq_getElem?, hel, hel, List.length_eraseIdx, if_pos hjl]
      constructor
      · by_cases j0 : j = 0
        · subst j0; simp
        · rw [if_neg (fun h => j0 h.2), if_pos (by omega)]; exact h1
      · by_cases jl : j + 1 = (K x).length
        · rw [if_pos ⟨rfl, jl⟩]
          unfold pv
          by_cases j0 : j = 0
          · rw [if_pos j0, if_neg (by omega), List.getElem?_eq_none (by omega)]
          · rw [if_neg j0, if_pos (by omega)]
            congr 2; omega
        · rw [if_neg (fun h => jl h.2), h2, List.getLast?_eq_getElem?, if_neg (by omega)]
          congr 2; omega
    · rw [if_neg e, if_neg (fun h => e h.1), if_neg (fun h => e h.1)]
      exact ⟨h1, h2⟩
  · intro q i k n' hq hx
    rw [hk.at_] at hx
    obtain ⟨n, hn, rfl⟩ := Option.map_eq_some_iff.1 hx
    rw [hO', hO', hk.hd]
    have hkc : k ≠ c := ((hmem q k).1 (List.mem_of_getElem? hq)).2
    unfold cutK at hq ⊢
    by_cases e : q = p
    · subst e
      rw [if_pos rfl] at hq ⊢
      rw [hel] at hq
      rw [hel, hel]
      unfold cutN
      simp only []
      rw [if_neg hkc, if_neg hkc, if_neg hkc]
      by_cases i1 : i < j
      · rw [if_pos i1] at hq
        obtain ⟨a1, a2, a3⟩ := h.kid q i k n hq hn
        refine ⟨a1, ?_, ?_⟩
        · rw [if_neg (fun e' => by have := h.inj hq e'; omega), a2]
          by_cases i0 : i = 0
          · rw [if_pos i0, if_pos i0]
          · rw [if_neg i0, if_neg i0, if_pos (by omega)]
        · by_cases ij : i + 1 = j
          · rw [if_pos (by unfold pv; rw [if_neg (by omega), show j - 1 = i by omega]; exact hq), if_neg (by omega), ij]
          · rw [if_neg (fun e' => by
              unfold pv at e'
              split at e'
              · cases e'
              · have := h.inj hq e'; omega), a3, if_pos (by omega)]
      · rw [if_neg i1] at hq
        obtain ⟨a1, a2, a3⟩ := h.kid q (i + 1) k n hq hn
        refine ⟨a1, ?_, ?_⟩
        · by_cases ij : i = j
          · subst ij
            rw [if_pos hq]
            unfold pv
            by_cases i0 : i = 0
            · rw [if_pos i0, if_pos i0]
            · rw [if_neg i0, if_neg i0, if_pos (by omega)]
          · rw [if_neg (fun e' => by have := h.inj hq e'; omega), a2, if_neg (by omega), if_neg (by omega), if_neg (by omega)]
            congr 2; omega
        · rw [if_neg (fun e' => by
              unfold pv at e'
              split at e'
              · cases e'
              · have := h.inj hq e'; omega), a3, if_neg (by omega)]
    · rw [if_neg e] at hq ⊢
      obtain ⟨a1, a2, a3⟩ := h.kid q i k n hq hn
      have hnp : ∀ i', (K p)[i']? ≠ Option.some k := fun i' e' => e (h.one_par (List.mem_of_getElem? hq) (List.mem_of_getElem? e'))
      unfold cutN
      simp only []
      rw [if_neg hkc, if_neg hkc, if_neg hkc, if_neg (hnp _), if_neg (c := pv (K p) j = Option.some k) (fun e' => by
        unfold pv at e'
        split at e'
        · cases e'
        · exact hnp _ e')]
      exact ⟨a1, a2, a3⟩
  · intro x n' hx hx2
    rw [hk.at_] at hx
    obtain ⟨n, hn, rfl⟩ := Option.map_eq_some_iff.1 hx
    unfold cutN
    simp only []
    by_cases hxc : x = c
    · rw [if_pos hxc, if_pos hxc, if_pos hxc]; exact ⟨rfl, rfl, rfl⟩
    · have hxK : ∀ q, x ∉ K q := fun q hq => hx2 q ((hmem q x).2 ⟨hq, hxc⟩)
      obtain ⟨a1, a2, a3⟩ := h.top x n hn hxK
      rw [if_neg hxc, if_neg hxc, if_neg hxc, if_neg (fun e' => hxK p (List.mem_of_getElem? e')), if_neg (fun e' => by
        unfold pv at e'
        split at e'
        · cases e'
        · exact hxK p (List.mem_of_getElem? e'))]
      exact ⟨a1, a2, a3⟩
  · intro q
    unfold cutK
    by_cases e : q = p
    · rw [if_pos e]; exact (h.nodup p).eraseIdx _
    · rw [if_neg e]; exact h.nodup q
  · intro q k hq
    obtain ⟨h1, h2⟩ := (hmem q k).1 hq
    exact hd2 q k h1 h2
  · intro x hx hxK
    rw [hsome] at hx
    by_cases hxc : x = c
    · rw [hxc]; exact hd1
    · exact hd5 x hx (fun q hq => hxK q ((hmem q x).2 ⟨hq, hxc⟩))
def subB (S : Tr) (d : Nat → Nat) (c x : Nat) : Bool := contB S c (d x) (some x)
theorem pr_kid {S K d} (h : Lk S K d) {q k : Nat} (hk : k ∈ K q) : pr S k = some q := by
  obtain ⟨n, hn⟩ := Option.isSome_iff_exists.1 (h.kin q k hk).2
  obtain ⟨j, hj⟩ := List.mem_iff_getElem?.1 hk
  exact pr_of h hn (o := some q) (h.kid q j k n hj hn).1 (fun x hx => by cases hx; exact (h.kin q k hk).1)
theorem sub_kid {S K d} (h : Lk S K d) {q k : Nat} (hk : k ∈ K q) (c : Nat) : subB S d c k = (c == k || subB S d c q) := by
  unfold subB
  rw [h.dep q k hk]
  show (c == k || contB S c (d q) (pr S k)) = _
  rw [pr_kid h hk]
theorem sub_top {S K d} (h : Lk S K d) {x : Nat} (hx : (S.at x).isSome = true) (ht : ∀ q, x ∉ K q) (c : Nat) : subB S d c x = (c == x) := by
  unfold subB
  rw [h.one x hx ht]
  show (c == x || contB S c 0 (pr S x)) = _
  simp [contB]
theorem sub_self {S K d} (h : Lk S K d) {x : Nat} (hx : (S.at x).isSome = true) : subB S d x x = true := by
  by_cases e : ∃ p, x ∈ K p
  · obtain ⟨p, hp⟩ := e; rw [sub_kid h hp]; simp
  · rw [sub_top h hx (fun p hp => e ⟨p, hp⟩)]; simp
theorem foldl_max_ge {α : Type} (f : α → Nat) : ∀ (l : List α) (m : Nat), m ≤ l.foldl (fun m k => max m (f k)) m ∧ ∀ k ∈ l, f k ≤ l.foldl (fun m k => max m (f k)) m
  | [], m => ⟨Nat.le_refl _, fun k hk => by cases hk⟩
  | a :: l, m => by
    obtain ⟨h1, h2⟩ := foldl_max_ge f l (max m (f a))
    refine ⟨by simp only [List.foldl_cons]; omega, fun k hk => ?_⟩
    rw [List.mem_cons] at hk
    simp only [List.foldl_cons]
    rcases hk with rfl | hk
    · omega
    · exact h2 k hk
theorem hgt_kid {S K d} (h : Lk S K d) {q k : Nat} (hk : k ∈ K q) : hgt K (128 - d k) k + d k ≤ hgt K (128 - d q) q + d q := by
  have h1 := h.dep q k hk
  have h2 := h.low k
  have e : hgt K (128 - d q) q = (K q).foldl (fun m k' => max m (hgt K (128 - d k) k')) 0 + 1 := by
    rw [show 128 - d q = (128 - d k) + 1 by omega]; rfl
  have := (foldl_max_ge (hgt K (128 - d k)) (K q) 0).2 k hk
  rw [e]
  omega
theorem hgt_pos (K : Nat → List Nat) : ∀ f i, 1 ≤ hgt K f i
  | 0, _ => Nat.le_refl _
  | f + 1, i => by unfold hgt; omega
theorem sub_dep {S K d} (h : Lk S K d) {c : Nat} : ∀ (m x : Nat), d x = m → (S.at x).isSome = true → subB S d c x = true → d c ≤ d x ∧ hgt K (128 - d x) x + d x ≤ hgt K (128 - d c) c + d c
  | m, x, hm, hx, hs => by
    by_cases e : c = x
    · subst e; exact ⟨Nat.le_refl _, Nat.le_refl _⟩
    by_cases ep : ∃ p, x ∈ K p
    · obtain ⟨p, hp⟩ := ep
      have hdp := h.dep p x hp
      rw [sub_kid h hp] at hs
      have hs' : subB S d c p = true := by simpa [e] using hs
      have ih := sub_dep h (d p) p rfl (h.kin p x hp).1 hs'
      have hg := hgt_kid h hp
      omega
    · rw [sub_top h hx (fun p hp => ep ⟨p, hp⟩)] at hs
      simp at hs
      exact absurd hs e
termination_by m _ => m
def dCut (S : Tr) (d : Nat → Nat) (c x : Nat) : Nat := if (S.at x).isSome && subB S d c x then d x - d c + 1 else d x
def dIns (S : Tr) (d : Nat → Nat) (p c x : Nat) : Nat := if (S.at x).isSome && subB S d c x then d x - d c + 1 + d p else d x
theorem Lk.cut' {S S' : Tr} {K : Nat → List Nat} {d : Nat → Nat} (h : Lk S K d) {p j c : Nat} (hj : (K p)[j]? = Option.some c) (hk : Cutd S S' (K p) p j c) : Lk S' (cutK K p j) (dCut S d c) := by
  have hcp := List.mem_of_getElem? hj
  have hcs := (h.kin p c hcp).2
  refine h.cut hj hk ?_ ?_ ?_ ?_
  · intro q k hq hkc
    have hd := h.dep q k hq
    have hs := sub_kid h hq c
    obtain ⟨u1, u2⟩ := h.kin q k hq
    have hne : (c == k) = false := by simpa using fun e => hkc e.symm
    rw [hne, Bool.false_or] at hs
    unfold dCut
    rw [u1, u2, hs]
    cases e : subB S d c q with
    | false => simpa using hd
    | true =>
      have := (sub_dep h _ q rfl u1 e).1
      simp
      omega
  · unfold dCut; rw [hcs, sub_self h hcs]; simp
  · intro x
    have := h.low x
    unfold dCut
    by_cases e : ((S.at x).isSome && subB S d c x) = true
    · rw [if_pos e]
      rw [Bool.and_eq_true] at e
      have := h.pos1 hcs
      have := (sub_dep h _ x rfl e.1 e.2).1
      omega
    · rw [if_neg e]; exact this
  · intro x hx hxK
    unfold dCut
    have hne : x ≠ c := fun e => hxK p (e ▸ hcp)
    rw [sub_top h hx hxK c, if_neg (by intro e; rw [Bool.and_eq_true] at e; exact hne (by simpa using e.2 : c = x).symm)]
    exact h.one x hx hxK
theorem Lk.cutLink {S S1 S2 : Tr} {K : Nat → List Nat} {d : Nat → Nat} (h : Lk S K d) {q j c p i : Nat} (hj : (K q)[j]? = Option.some c) (hk : Cutd S S1 (K q) q j c) (hp : (S.at p).isSome = true) (hi : i ≤ (cutK K q j p).length)
    (hnot : subB S d c p = false) (hgt' : d p + hgt K (128 - d c) c ≤ 128) (hl : Linked S1 S2 (cutK K q j p) p i c) : Lk S2 (linkK (cutK K q j) p i c) (dIns S d p c) := by
  have h1 := h.cut' hj hk
  have hcs := (h.kin q c (List.mem_of_getElem? hj)).2
  have hsome : ∀ x, (S1.at x).isSome = (S.at x).isSome := fun x => by rw [hk.at_]; cases S.at x <;> rfl
  obtain ⟨np, hnp⟩ := Option.isSome_iff_exists.1 ((hsome p).trans hp)
  obtain ⟨nc, hnc⟩ := Option.isSome_iff_exists.1 ((hsome c).trans hcs)
  have hdet : ∀ q', c ∉ cutK K q j q' := fun q' hq' => ((cut_mem h hj q' c).1 hq').2 rfl
  have hpc : p ≠ c := fun e => by subst e; rw [sub_self h hcs] at hnot; cases hnot
  have hdp : dCut S d c p = d p := by unfold dCut; rw [hnot]; simp
  have hIC : ∀ x, dIns S d p c x = if (S.at x).isSome && subB S d c x then dCut S d c x + d p else dCut S d c x := fun x => by
    unfold dIns dCut; split <;> rfl
  refine h1.link hnp hnc hi hdet hpc hl.at_ hl.len hl.hd ?_ ?_ ?_ ?_ ?_
  · rw [hIC, hcs, sub_self h hcs, hdp]
    unfold dCut; rw [hcs, sub_self h hcs]; simp; omega
  · intro q' k hk'
    have hm := (cut_mem h hj q' k).1 hk'
    have hd := h1.dep q' k hk'
    obtain ⟨u1, u2⟩ := h.kin q' k hm.1
    have hs := sub_kid h hm.1 c
    have hne : (c == k) = false := by simpa using fun e => hm.2 e.symm
    rw [hne, Bool.false_or] at hs
    rw [hIC, hIC, u1, u2, hs, hd]
    cases subB S d c q' <;> simp <;> omega
  · rw [hIC, hnot, hdp]; simp
  · intro x
    rw [hIC]
    by_cases e : ((S.at x).isSome && subB S d c x) = true
    · rw [if_pos e]
      unfold dCut
      rw [if_pos e]
      rw [Bool.and_eq_true] at e
      have h2 := sub_dep h _ x rfl e.1 e.2
      have h3 := hgt_pos K (128 - d x) x
      omega
    · rw [if_neg e]; exact h1.low x
  · intro x hx hxc hxK
    rw [hsome] at hx
    rw [hIC]
    have hxK' : ∀ q', x ∉ K q' := fun q' hq' => hxK q' ((cut_mem h hj q' x).2 ⟨hq', hxc⟩)
    rw [sub_top h hx hxK' c, if_neg (by intro e; rw [Bool.and_eq_true] at e; exact hxc (by simpa using e.2 : c = x).symm)]
    exact h1.one x (by rw [hsome]; exact hx) hxK
theorem Lk.hang' {S S2 : Tr} {K : Nat → List Nat} {d : Nat → Nat} (h : Lk S K d) {c p i : Nat} (hp : (S.at p).isSome = true) (hc : (S.at c).isSome = true) (hdet : ∀ q, c ∉ K q) (hi : i ≤ (K p).length)
    (hnot : subB S d c p = false) (hgt' : d p + hgt K (128 - d c) c ≤ 128) (hl : Linked S S2 (K p) p i c) : Lk S2 (linkK K p i c) (dIns S d p c) := by
  obtain ⟨np, hnp⟩ := Option.isSome_iff_exists.1 hp
  obtain ⟨nc, hnc⟩ := Option.isSome_iff_exists.1 hc
  have hpc : p ≠ c := fun e => by subst e; rw [sub_self h hc] at hnot; cases hnot
  have hd1 := h.one c hc hdet
  refine h.link hnp hnc hi hdet hpc hl.at_ hl.len hl.hd ?_ ?_ ?_ ?_ ?_
  · unfold dIns; rw [hc, sub_self h hc]; simp; omega
  · intro q k hk
    have hd := h.dep q k hk
    obtain ⟨u1, u2⟩ := h.kin q k hk
    have hs := sub_kid h hk c
    have hne : (c == k) = false := by simpa using fun e : c = k => hdet q (e ▸ hk)
    rw [hne, Bool.false_or] at hs
    unfold dIns
    rw [u1, u2, hs]
    cases e : subB S d c q with
    | false => simpa using hd
    | true =>
      have := (sub_dep h _ q rfl u1 e).1
      simp
      omega
  · unfold dIns; rw [hnot]; simp
  · intro x
    unfold dIns
    by_cases e : ((S.at x).isSome && subB S d c x) = true
    · rw [if_pos e]
      rw [Bool.and_eq_true] at e
      have h2 := sub_dep h _ x rfl e.1 e.2
      have h3 := hgt_pos K (128 - d x) x
      omega
    · rw [if_neg e]; exact h.low x
  · intro x hx hxc hxK
    unfold dIns
    rw [sub_top h hx hxK c, if_neg (by intro e; rw [Bool.and_eq_true] at e; exact hxc (by simpa using e.2 : c = x).symm)]
    exact h.one x hx hxK
end Go.Proofs.YtacdbnhnhdlmpaaGreatDoor.W
end
section
namespace Go.Proofs.YtacdbnhnhdlmpaaGreatDoor.W
open Go
def isCall (o : Oper) : Bool := match o.op with | .call c => (match c.callee with | .builtin b => (match b with | .print => true | .println => true | _ => false) | _ => true) | _ => false
section
variable (P : Program) (ops : Array Oper) (S : World → Prop) (C : Nat → World → Prop)
def heldRun (o : Oper) (a : Act) (v : Value) : Prop :=
  ∀ w, S w → (execOp a.eval o).run P w = .ok (.value v) w ∨ ((execOp a.eval o).run P w = .ok .skip w ∧ v = undef)
end
section
variable {P : Program} {ops : Array Oper} {S : World → Prop} {C : Nat → World → Prop} {md : Region.Mode} {Q : Nat → Act → Prop}
def depList (md : Region.Mode) (ops : Array Oper) (i : Nat) : List Nat :=
  (List.range ops.size).foldl (fun B j => if (match ops[j]? with | some o => o.after.any fun e => Region.binds md e && (e.on == i || B.contains e.on) | none => false) then j :: B else B) []
def callAt (ops : Array Oper) (j : Nat) : Bool := match ops[j]? with | some o => isCall o | none => false
end
structure InS (S : World → Prop) where
  w : World
  h : S w
theorem notEnter_bind {P : Program} {α : Type} {s : Sem α} {k : α → Sem Next} {w w' : World} {f : FuncId} {args : Array Value} (h : ∀ x w, (k x).run P w ≠ .ok (.enter f args) w') : (s >>= k).run P w ≠ .ok (.enter f args) w' := by
  rw [Sem.run_bind]
  cases s.run P w with
  | ok x w1 => exact h x w1
  | halt x w1 => simp [Result.andThen]
theorem notEnter_value {P : Program} {v : Value} {w w' : World} {f : FuncId} {args : Array Value} : (pure (Next.value v) : Sem Next).run P w ≠ .ok (.enter f args) w' := by simp [Sem.run_pure]
theorem notEnter_builtin {P : Program} {b : Builtin} {ts : Array TypeId} {t : TypeId} {cs : Array Bool} {xs : Array Value} {w w' : World} {f : FuncId} {args : Array Value} (hb : (match b with | .print => true | .println => true | _ => false) = false) : (builtin b ts t cs xs).run P w ≠ .ok (.enter f args) w' := by
  have hv : ∀ (s : Sem Value), (do pure (Next.value (← s)) : Sem Next).run P w ≠ .ok (.enter f args) w' := fun s => notEnter_bind fun _ _ => notEnter_value
  cases b <;> simp only [builtin] <;> first | exact hv _ | (simp at hb; done) | (simp [Sem.run_pure]; done) | exact notEnter_bind (fun _ _ => notEnter_value) | (unfold stuck; simp; done) | (unfold unsupported; simp; done)
theorem notEnter {P : Program} {o : Oper} {ρ : Operand → Value} {w w' : World} {f : FuncId} {args : Array Value} (hc : isCall o = false) : (execOp ρ o).run P w ≠ .ok (.enter f args) w' := by
  have hv : ∀ (s : Sem Value), (do pure (Next.value (← s)) : Sem Next).run P w ≠ .ok (.enter f args) w' := fun s => notEnter_bind fun _ _ => notEnter_value
  have hu : ∀ (s : Sem Unit), (do s; pure Next.skip : Sem Next).run P w ≠ .ok (.enter f args) w' := fun s => notEnter_bind fun _ _ => by simp [Sem.run_pure]
  obtain ⟨dst, op, type, pos, after, guard⟩ := o
  cases op
  case call c =>
    obtain ⟨callee, xs, ts⟩ := c
    cases callee with
    | builtin b =>
      simp only [execOp, resolve, pure_bind, invoke]
      exact notEnter_builtin (by simpa [isCall] using hc)
    | value f => simp [isCall] at hc
    | invoke r m => simp [isCall] at hc
  case nilCheck x =>
    simp only [execOp]
    split
    · simp [runtimePanic]
    · simp [runtimePanic]
    · simp [runtimePanic]
    · split
      · simp [runtimePanic]
      · refine notEnter_bind fun _ _ => notEnter_bind fun _ _ => ?_
        split
        · exact notEnter_bind fun _ _ => notEnter_value
        · exact notEnter_value
      · exact notEnter_value
    · exact notEnter_value
  case recv t c b =>
    simp only [execOp]
    refine notEnter_bind fun x _ => ?_
    split
    · exact notEnter_bind fun _ _ => by simp [Sem.run_pure]
    · simp [stuck]
  case select cs b =>
    simp only [execOp]
    exact notEnter_bind fun _ _ => by simp [Sem.run_pure]
  case go c =>
    simp only [execOp]
    exact notEnter_bind fun _ _ => by simp [Sem.run_pure]
  case defer c =>
    simp only [execOp]
    exact notEnter_bind fun _ _ => by simp [Sem.run_pure]
  case pick c x y =>
    simp only [execOp]
    exact notEnter_bind fun _ _ => notEnter_value
  all_goals simp only [execOp]
  all_goals first
    | exact hv _
    | exact hu _
    | (simp [Sem.run_pure]; done)
end Go.Proofs.YtacdbnhnhdlmpaaGreatDoor.W
end
