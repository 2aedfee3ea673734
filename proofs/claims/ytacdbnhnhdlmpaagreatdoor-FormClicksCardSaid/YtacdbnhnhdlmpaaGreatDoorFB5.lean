/- Texts joined: CutP Reg. -/
import Derived.Test.YtacdbnhnhdlmpaaGreatDoorFB4
import Derived.Deep.RegionHeld3
import Derived.BigQuiet
import Derived.WalkKit
set_option maxRecDepth 100000
set_option maxHeartbeats 40000000
set_option linter.unusedVariables false
set_option linter.unusedSimpArgs false
section
namespace Go.Proofs.YtacdbnhnhdlmpaaGreatDoor.W
def cutN (S : Tr) (l : List Nat) (p j c x : Nat) (n : Nd) : Nd :=
  { n with
    parent := if x = c then 0 else n.parent
    prev := if x = c then 0 else if l[j + 1]? = some x then hO S (pv l j) else n.prev
    next := if x = c then 0 else if pv l j = some x then hO S l[j + 1]? else n.next
    first := if x = p ∧ j = 0 then hO S l[j + 1]? else n.first
    last := if x = p ∧ j + 1 = l.length then hO S (pv l j) else n.last }
def cutK (K : Nat → List Nat) (p j : Nat) (q : Nat) : List Nat := if q = p then (K p).eraseIdx j else K q
structure Cutd (S S' : Tr) (l : List Nat) (p j c : Nat) : Prop where
  at_ : ∀ x, S'.at x = (S.at x).map (cutN S l p j c x)
  len : S'.slots.length = S.slots.length
  b : S'.b = S.b
  s : S'.s = S.s
  free : S'.free = S.free
  root : S'.root = S.root
theorem Cutd.hd {S S' : Tr} {l : List Nat} {p j c : Nat} (h : Cutd S S' l p j c) (x : Nat) : S'.hd x = S.hd x := by unfold Tr.hd; rw [h.b, h.s]
theorem Lk.inj {S K d} (h : Lk S K d) {q i i' x : Nat} (e1 : (K q)[i]? = Option.some x) (e2 : (K q)[i']? = Option.some x) : i' = i :=
  (List.getElem?_inj (List.getElem?_eq_some_iff.1 e2).1 (h.nodup q)).1 (e2.trans e1.symm)
theorem Lk.self {S K d} (h : Lk S K d) {p : Nat} : p ∉ K p := fun hk => by have := h.dep p p hk; omega
theorem Lk.pos1 {S K d} (h : Lk S K d) {x : Nat} (hx : (S.at x).isSome = true) : 1 ≤ d x := by
  by_cases e : ∃ p, x ∈ K p
  · obtain ⟨p, hp⟩ := e; have := h.dep p x hp; omega
  · rw [h.one x hx (fun p hp => e ⟨p, hp⟩)]; exact Nat.le_refl _
theorem cut_mem {S K d} (h : Lk S K d) {p j c : Nat} (hj : (K p)[j]? = some c) (q k : Nat) : k ∈ cutK K p j q ↔ (k ∈ K q ∧ k ≠ c) := by
  unfold cutK
  have hjl := (List.getElem?_eq_some_iff.1 hj).1
  by_cases e : q = p
  · subst e
    rw [if_pos rfl, List.mem_eraseIdx_iff_getElem?]
    constructor
    · rintro ⟨i, hi, hk⟩
      exact ⟨List.mem_of_getElem? hk, fun e => hi (by subst e; exact h.inj hj hk)⟩
    · rintro ⟨hk, hc⟩
      obtain ⟨i, hi⟩ := List.mem_iff_getElem?.1 hk
      exact ⟨i, fun e => hc (by subst e; rw [hj] at hi; cases hi; rfl), hi⟩
  · rw [if_neg e]
    exact ⟨fun hk => ⟨hk, fun e' => e (h.one_par (e' ▸ hk) (List.mem_of_getElem? hj))⟩, fun hk => hk.1⟩
set_option maxHeartbeats 1000000 in
theorem Lk.cut {S S' : Tr} {K : Nat → List Nat} {d d' : Nat → Nat} (h : Lk S K d) {p j c : Nat} (hj : (K p)[j]? = Option.some c) (hk : Cutd S S' (K p) p j c)
    (hd2 : ∀ q k, k ∈ K q → k ≠ c → d' k = d' q + 1) (hd1 : d' c = 1) (hd4 : ∀ x, d' x ≤ 128) (hd5 : ∀ x, (S.at x).isSome = true → (∀ q, x ∉ K q) → d' x = 1) : Lk S' (cutK K p j) d' := by
  have hO' : ∀ o, hO S' o = hO S o := fun o => by cases o with | none => rfl | some x => exact hk.hd x
  have hsome : ∀ x, (S'.at x).isSome = (S.at x).isSome := fun x => by rw [hk.at_]; cases S.at x <;> rfl
  have hmem := cut_mem h hj
  have hjl := (List.getElem?_eq_some_iff.1 hj).1
  have hcp := List.mem_of_getElem? hj
  have hpc : p ≠ c := fun e => h.self (e ▸ hcp : p ∈ K p)
  have hel := fun i => List.getElem?_eraseIdx (l := K p) (i := j) (j := i)
  refine ⟨?_, ?_, ?_, ?_, ?_, ?_, ?_, hd4, by rw [hk.len]; exact h.few⟩
  · intro q k hq
    rw [hsome, hsome]
    exact h.kin q k ((hmem q k).1 hq).1
  · intro x n' hx
    rw [hk.at_] at hx
    obtain ⟨n, hn, rfl⟩ := Option.map_eq_some_iff.1 hx
    obtain ⟨h1, h2⟩ := h.node x n hn
    rw [hO', hO']
    unfold cutN cutK
    simp only []
    by_cases e : x = p
    · subst e
      rw [if_pos rfl, List.getLast?_eq_getElem?, hel, hel, List.length_eraseIdx, if_pos hjl]
      constructor
      · by_cases j0 : j = 0
        · subst j0; simp
        · rw [if_neg (fun h => j0 h.2), if_pos (by omega)]; exact h1
      · by_cases jl : j + 1 = (K x).length
        · rw [if_pos ⟨rfl, jl⟩]
          unfold pv
          by_cases j0 : j = 0
          · rw [if_pos j0, if_neg (by omega), List.getElem?_eq_none (by omega)]
          · rw [if_neg j0, if_pos (by omega)]
            congr 2; omega
        · rw [if_neg (fun h => jl h.2), h2, List.getLast?_eq_getElem?, if_neg (by omega)]
          congr 2; omega
    · rw [if_neg e, if_neg (fun h => e h.1), if_neg (fun h => e h.1)]
      exact ⟨h1, h2⟩
  · intro q i k n' hq hx
    rw [hk.at_] at hx
    obtain ⟨n, hn, rfl⟩ := Option.map_eq_some_iff.1 hx
    rw [hO', hO', hk.hd]
    have hkc : k ≠ c := ((hmem q k).1 (List.mem_of_getElem? hq)).2
    unfold cutK at hq ⊢
    by_cases e : q = p
    · subst e
      rw [if_pos rfl] at hq ⊢
      rw [hel] at hq
      rw [hel, hel]
      unfold cutN
      simp only []
      rw [if_neg hkc, if_neg hkc, if_neg hkc]
      by_cases i1 : i < j
      · rw [if_pos i1] at hq
        obtain ⟨a1, a2, a3⟩ := h.kid q i k n hq hn
        refine ⟨a1, ?_, ?_⟩
        · rw [if_neg (fun e' => by have := h.inj hq e'; omega), a2]
          by_cases i0 : i = 0
          · rw [if_pos i0, if_pos i0]
          · rw [if_neg i0, if_neg i0, if_pos (by omega)]
        · by_cases ij : i + 1 = j
          · rw [if_pos (by unfold pv; rw [if_neg (by omega), show j - 1 = i by omega]; exact hq), if_neg (by omega), ij]
          · rw [if_neg (fun e' => by
              unfold pv at e'
              split at e'
              · cases e'
              · have := h.inj hq e'; omega), a3, if_pos (by omega)]
      · rw [if_neg i1] at hq
        obtain ⟨a1, a2, a3⟩ := h.kid q (i + 1) k n hq hn
        refine ⟨a1, ?_, ?_⟩
        · by_cases ij : i = j
          · subst ij
            rw [if_pos hq]
            unfold pv
            by_cases i0 : i = 0
            · rw [if_pos i0, if_pos i0]
            · rw [if_neg i0, if_neg i0, if_pos (by omega)]
          · rw [if_neg (fun e' => by have := h.inj hq e'; omega), a2, if_neg (by omega), if_neg (by omega), if_neg (by omega)]
            congr 2; omega
        · rw [if_neg (fun e' => by
              unfold pv at e'
              split at e'
              · cases e'
              · have := h.inj hq e'; omega), a3, if_neg (by omega)]
    · rw [if_neg e] at hq ⊢
      obtain ⟨a1, a2, a3⟩ := h.kid q i k n hq hn
      have hnp : ∀ i', (K p)[i']? ≠ Option.some k := fun i' e' => e (h.one_par (List.mem_of_getElem? hq) (List.mem_of_getElem? e'))
      unfold cutN
      simp only []
      rw [if_neg hkc, if_neg hkc, if_neg hkc, if_neg (hnp _), if_neg (c := pv (K p) j = Option.some k) (fun e' => by
        unfold pv at e'
        split at e'
        · cases e'
        · exact hnp _ e')]
      exact ⟨a1, a2, a3⟩
  · intro x n' hx hx2
    rw [hk.at_] at hx
    obtain ⟨n, hn, rfl⟩ := Option.map_eq_some_iff.1 hx
    unfold cutN
    simp only []
    by_cases hxc : x = c
    · rw [if_pos hxc, if_pos hxc, if_pos hxc]; exact ⟨rfl, rfl, rfl⟩
    · have hxK : ∀ q, x ∉ K q := fun q hq => hx2 q ((hmem q x).2 ⟨hq, hxc⟩)
      obtain ⟨a1, a2, a3⟩ := h.top x n hn hxK
      rw [if_neg hxc, if_neg hxc, if_neg hxc, if_neg (fun e' => hxK p (List.mem_of_getElem? e')), if_neg (fun e' => by
        unfold pv at e'
        split at e'
        · cases e'
        · exact hxK p (List.mem_of_getElem? e'))]
      exact ⟨a1, a2, a3⟩
  · intro q
    unfold cutK
    by_cases e : q = p
    · rw [if_pos e]; exact (h.nodup p).eraseIdx _
    · rw [if_neg e]; exact h.nodup q
  · intro q k hq
    obtain ⟨h1, h2⟩ := (hmem q k).1 hq
    exact hd2 q k h1 h2
  · intro x hx hxK
    rw [hsome] at hx
    by_cases hxc : x = c
    · rw [hxc]; exact hd1
    · exact hd5 x hx (fun q hq => hxK q ((hmem q x).2 ⟨hq, hxc⟩))
def subB (S : Tr) (d : Nat → Nat) (c x : Nat) : Bool := contB S c (d x) (some x)
theorem pr_kid {S K d} (h : Lk S K d) {q k : Nat} (hk : k ∈ K q) : pr S k = some q := by
  obtain ⟨n, hn⟩ := Option.isSome_iff_exists.1 (h.kin q k hk).2
  obtain ⟨j, hj⟩ := List.mem_iff_getElem?.1 hk
  exact pr_of h hn (o := some q) (h.kid q j k n hj hn).1 (fun x hx => by cases hx; exact (h.kin q k hk).1)
theorem sub_kid {S K d} (h : Lk S K d) {q k : Nat} (hk : k ∈ K q) (c : Nat) : subB S d c k = (c == k || subB S d c q) := by
  unfold subB
  rw [h.dep q k hk]
  show (c == k || contB S c (d q) (pr S k)) = _
  rw [pr_kid h hk]
theorem sub_top {S K d} (h : Lk S K d) {x : Nat} (hx : (S.at x).isSome = true) (ht : ∀ q, x ∉ K q) (c : Nat) : subB S d c x = (c == x) := by
  unfold subB
  rw [h.one x hx ht]
  show (c == x || contB S c 0 (pr S x)) = _
  simp [contB]
theorem sub_self {S K d} (h : Lk S K d) {x : Nat} (hx : (S.at x).isSome = true) : subB S d x x = true := by
  by_cases e : ∃ p, x ∈ K p
  · obtain ⟨p, hp⟩ := e; rw [sub_kid h hp]; simp
  · rw [sub_top h hx (fun p hp => e ⟨p, hp⟩)]; simp
theorem foldl_max_ge {α : Type} (f : α → Nat) : ∀ (l : List α) (m : Nat), m ≤ l.foldl (fun m k => max m (f k)) m ∧ ∀ k ∈ l, f k ≤ l.foldl (fun m k => max m (f k)) m
  | [], m => ⟨Nat.le_refl _, fun k hk => by cases hk⟩
  | a :: l, m => by
    obtain ⟨h1, h2⟩ := foldl_max_ge f l (max m (f a))
    refine ⟨by simp only [List.foldl_cons]; omega, fun k hk => ?_⟩
    rw [List.mem_cons] at hk
    simp only [List.foldl_cons]
    rcases hk with rfl | hk
    · omega
    · exact h2 k hk
theorem hgt_kid {S K d} (h : Lk S K d) {q k : Nat} (hk : k ∈ K q) : hgt K (128 - d k) k + d k ≤ hgt K (128 - d q) q + d q := by
  have h1 := h.dep q k hk
  have h2 := h.low k
  have e : hgt K (128 - d q) q = (K q).foldl (fun m k' => max m (hgt K (128 - d k) k')) 0 + 1 := by
    rw [show 128 - d q = (128 - d k) + 1 by omega]; rfl
  have := (foldl_max_ge (hgt K (128 - d k)) (K q) 0).2 k hk
  rw [e]
  omega
theorem hgt_pos (K : Nat → List Nat) : ∀ f i, 1 ≤ hgt K f i
  | 0, _ => Nat.le_refl _
  | f + 1, i => by unfold hgt; omega
theorem sub_dep {S K d} (h : Lk S K d) {c : Nat} : ∀ (m x : Nat), d x = m → (S.at x).isSome = true → subB S d c x = true → d c ≤ d x ∧ hgt K (128 - d x) x + d x ≤ hgt K (128 - d c) c + d c
  | m, x, hm, hx, hs => by
    by_cases e : c = x
    · subst e; exact ⟨Nat.le_refl _, Nat.le_refl _⟩
    by_cases ep : ∃ p, x ∈ K p
    · obtain ⟨p, hp⟩ := ep
      have hdp := h.dep p x hp
      rw [sub_kid h hp] at hs
      have hs' : subB S d c p = true := by simpa [e] using hs
      have ih := sub_dep h (d p) p rfl (h.kin p x hp).1 hs'
      have hg := hgt_kid h hp
      omega
    · rw [sub_top h hx (fun p hp => ep ⟨p, hp⟩)] at hs
      simp at hs
      exact absurd hs e
termination_by m _ => m
def dCut (S : Tr) (d : Nat → Nat) (c x : Nat) : Nat := if (S.at x).isSome && subB S d c x then d x - d c + 1 else d x
def dIns (S : Tr) (d : Nat → Nat) (p c x : Nat) : Nat := if (S.at x).isSome && subB S d c x then d x - d c + 1 + d p else d x
theorem Lk.cut' {S S' : Tr} {K : Nat → List Nat} {d : Nat → Nat} (h : Lk S K d) {p j c : Nat} (hj : (K p)[j]? = Option.some c) (hk : Cutd S S' (K p) p j c) : Lk S' (cutK K p j) (dCut S d c) := by
  have hcp := List.mem_of_getElem? hj
  have hcs := (h.kin p c hcp).2
  refine h.cut hj hk ?_ ?_ ?_ ?_
  · intro q k hq hkc
    have hd := h.dep q k hq
    have hs := sub_kid h hq c
    obtain ⟨u1, u2⟩ := h.kin q k hq
    have hne : (c == k) = false := by simpa using fun e => hkc e.symm
    rw [hne, Bool.false_or] at hs
    unfold dCut
    rw [u1, u2, hs]
    cases e : subB S d c q with
    | false => simpa using hd
    | true =>
      have := (sub_dep h _ q rfl u1 e).1
      simp
      omega
  · unfold dCut; rw [hcs, sub_self h hcs]; simp
  · intro x
    have := h.low x
    unfold dCut
    by_cases e : ((S.at x).isSome && subB S d c x) = true
    · rw [if_pos e]
      rw [Bool.and_eq_true] at e
      have := h.pos1 hcs
      have := (sub_dep h _ x rfl e.1 e.2).1
      omega
    · rw [if_neg e]; exact this
  · intro x hx hxK
    unfold dCut
    have hne : x ≠ c := fun e => hxK p (e ▸ hcp)
    rw [sub_top h hx hxK c, if_neg (by intro e; rw [Bool.and_eq_true] at e; exact hne (by simpa using e.2 : c = x).symm)]
    exact h.one x hx hxK
theorem Lk.cutLink {S S1 S2 : Tr} {K : Nat → List Nat} {d : Nat → Nat} (h : Lk S K d) {q j c p i : Nat} (hj : (K q)[j]? = Option.some c) (hk : Cutd S S1 (K q) q j c) (hp : (S.at p).isSome = true) (hi : i ≤ (cutK K q j p).length)
    (hnot : subB S d c p = false) (hgt' : d p + hgt K (128 - d c) c ≤ 128) (hl : Linked S1 S2 (cutK K q j p) p i c) : Lk S2 (linkK (cutK K q j) p i c) (dIns S d p c) := by
  have h1 := h.cut' hj hk
  have hcs := (h.kin q c (List.mem_of_getElem? hj)).2
  have hsome : ∀ x, (S1.at x).isSome = (S.at x).isSome := fun x => by rw [hk.at_]; cases S.at x <;> rfl
  obtain ⟨np, hnp⟩ := Option.isSome_iff_exists.1 ((hsome p).trans hp)
  obtain ⟨nc, hnc⟩ := Option.isSome_iff_exists.1 ((hsome c).trans hcs)
  have hdet : ∀ q', c ∉ cutK K q j q' := fun q' hq' => ((cut_mem h hj q' c).1 hq').2 rfl
  have hpc : p ≠ c := fun e => by subst e; rw [sub_self h hcs] at hnot; cases hnot
  have hdp : dCut S d c p = d p := by unfold dCut; rw [hnot]; simp
  have hIC : ∀ x, dIns S d p c x = if (S.at x).isSome && subB S d c x then dCut S d c x + d p else dCut S d c x := fun x => by
    unfold dIns dCut; split <;> rfl
  refine h1.link hnp hnc hi hdet hpc hl.at_ hl.len hl.hd ?_ ?_ ?_ ?_ ?_
  · rw [hIC, hcs, sub_self h hcs, hdp]
    unfold dCut; rw [hcs, sub_self h hcs]; simp; omega
  · intro q' k hk'
    have hm := (cut_mem h hj q' k).1 hk'
    have hd := h1.dep q' k hk'
    obtain ⟨u1, u2⟩ := h.kin q' k hm.1
    have hs := sub_kid h hm.1 c
    have hne : (c == k) = false := by simpa using fun e => hm.2 e.symm
    rw [hne, Bool.false_or] at hs
    rw [hIC, hIC, u1, u2, hs, hd]
    cases subB S d c q' <;> simp <;> omega
  · rw [hIC, hnot, hdp]; simp
  · intro x
    rw [hIC]
    by_cases e : ((S.at x).isSome && subB S d c x) = true
    · rw [if_pos e]
      unfold dCut
      rw [if_pos e]
      rw [Bool.and_eq_true] at e
      have h2 := sub_dep h _ x rfl e.1 e.2
      have h3 := hgt_pos K (128 - d x) x
      omega
    · rw [if_neg e]; exact h1.low x
  · intro x hx hxc hxK
    rw [hsome] at hx
    rw [hIC]
    have hxK' : ∀ q', x ∉ K q' := fun q' hq' => hxK q' ((cut_mem h hj q' x).2 ⟨hq', hxc⟩)
    rw [sub_top h hx hxK' c, if_neg (by intro e; rw [Bool.and_eq_true] at e; exact hxc (by simpa using e.2 : c = x).symm)]
    exact h1.one x (by rw [hsome]; exact hx) hxK
theorem Lk.hang' {S S2 : Tr} {K : Nat → List Nat} {d : Nat → Nat} (h : Lk S K d) {c p i : Nat} (hp : (S.at p).isSome = true) (hc : (S.at c).isSome = true) (hdet : ∀ q, c ∉ K q) (hi : i ≤ (K p).length)
    (hnot : subB S d c p = false) (hgt' : d p + hgt K (128 - d c) c ≤ 128) (hl : Linked S S2 (K p) p i c) : Lk S2 (linkK K p i c) (dIns S d p c) := by
  obtain ⟨np, hnp⟩ := Option.isSome_iff_exists.1 hp
  obtain ⟨nc, hnc⟩ := Option.isSome_iff_exists.1 hc
  have hpc : p ≠ c := fun e => by subst e; rw [sub_self h hc] at hnot; cases hnot
  have hd1 := h.one c hc hdet
  refine h.link hnp hnc hi hdet hpc hl.at_ hl.len hl.hd ?_ ?_ ?_ ?_ ?_
  · unfold dIns; rw [hc, sub_self h hc]; simp; omega
  · intro q k hk
    have hd := h.dep q k hk
    obtain ⟨u1, u2⟩ := h.kin q k hk
    have hs := sub_kid h hk c
    have hne : (c == k) = false := by simpa using fun e : c = k => hdet q (e ▸ hk)
    rw [hne, Bool.false_or] at hs
    unfold dIns
    rw [u1, u2, hs]
    cases e : subB S d c q with
    | false => simpa using hd
    | true =>
      have := (sub_dep h _ q rfl u1 e).1
      simp
      omega
  · unfold dIns; rw [hnot]; simp
  · intro x
    unfold dIns
    by_cases e : ((S.at x).isSome && subB S d c x) = true
    · rw [if_pos e]
      rw [Bool.and_eq_true] at e
      have h2 := sub_dep h _ x rfl e.1 e.2
      have h3 := hgt_pos K (128 - d x) x
      omega
    · rw [if_neg e]; exact h.low x
  · intro x hx hxc hxK
    unfold dIns
    rw [sub_top h hx hxK c, if_neg (by intro e; rw [Bool.and_eq_true] at e; exact hxc (by simpa using e.2 : c = x).symm)]
    exact h.one x hx hxK
end Go.Proofs.YtacdbnhnhdlmpaaGreatDoor.W
end
section
namespace Go.Proofs.YtacdbnhnhdlmpaaGreatDoor.W
open Go
def isCall (o : Oper) : Bool := match o.op with | .call c => (match c.callee with | .builtin b => (match b with | .print => true | .println => true | _ => false) | _ => true) | _ => false
section
variable (P : Program) (ops : Array Oper) (S : World → Prop) (C : Nat → World → Prop)
def heldRun (o : Oper) (a : Act) (v : Value) : Prop :=
  ∀ w, S w → (execOp a.eval o).run P w = .ok (.value v) w ∨ ((execOp a.eval o).run P w = .ok .skip w ∧ v = undef)
end
section
variable {P : Program} {ops : Array Oper} {S : World → Prop} {C : Nat → World → Prop} {md : Region.Mode} {Q : Nat → Act → Prop}
def depList (md : Region.Mode) (ops : Array Oper) (i : Nat) : List Nat :=
  (List.range ops.size).foldl (fun B j => if (match ops[j]? with | some o => o.after.any fun e => Region.binds md e && (e.on == i || B.contains e.on) | none => false) then j :: B else B) []
def callAt (ops : Array Oper) (j : Nat) : Bool := match ops[j]? with | some o => isCall o | none => false
end
structure InS (S : World → Prop) where
  w : World
  h : S w
theorem notEnter_bind {P : Program} {α : Type} {s : Sem α} {k : α → Sem Next} {w w' : World} {f : FuncId} {args : Array Value} (h : ∀ x w, (k x).run P w ≠ .ok (.enter f args) w') : (s >>= k).run P w ≠ .ok (.enter f args) w' := by
  rw [Sem.run_bind]
  cases s.run P w with
  | ok x w1 => exact h x w1
  | halt x w1 => simp [Result.andThen]
theorem notEnter_value {P : Program} {v : Value} {w w' : World} {f : FuncId} {args : Array Value} : (pure (Next.value v) : Sem Next).run P w ≠ .ok (.enter f args) w' := by simp [Sem.run_pure]
theorem notEnter_builtin {P : Program} {b : Builtin} {ts : Array TypeId} {t : TypeId} {cs : Array Bool} {xs : Array Value} {w w' : World} {f : FuncId} {args : Array Value} (hb : (match b with | .print => true | .println => true | _ => false) = false) : (builtin b ts t cs xs).run P w ≠ .ok (.enter f args) w' := by
  have hv : ∀ (s : Sem Value), (do pure (Next.value (← s)) : Sem Next).run P w ≠ .ok (.enter f args) w' := fun s => notEnter_bind fun _ _ => notEnter_value
  cases b <;> simp only [builtin] <;> first | exact hv _ | (simp at hb; done) | (simp [Sem.run_pure]; done) | exact notEnter_bind (fun _ _ => notEnter_value) | (unfold stuck; simp; done) | (unfold unsupported; simp; done)
theorem notEnter {P : Program} {o : Oper} {ρ : Operand → Value} {w w' : World} {f : FuncId} {args : Array Value} (hc : isCall o = false) : (execOp ρ o).run P w ≠ .ok (.enter f args) w' := by
  have hv : ∀ (s : Sem Value), (do pure (Next.value (← s)) : Sem Next).run P w ≠ .ok (.enter f args) w' := fun s => notEnter_bind fun _ _ => notEnter_value
  have hu : ∀ (s : Sem Unit), (do s; pure Next.skip : Sem Next).run P w ≠ .ok (.enter f args) w' := fun s => notEnter_bind fun _ _ => by simp [Sem.run_pure]
  obtain ⟨dst, op, type, pos, after, guard⟩ := o
  cases op
  case call c =>
    obtain ⟨callee, xs, ts⟩ := c
    cases callee with
    | builtin b =>
      simp only [execOp, resolve, pure_bind, invoke]
      exact notEnter_builtin (by simpa [isCall] using hc)
    | value f => simp [isCall] at hc
    | invoke r m => simp [isCall] at hc
  case nilCheck x =>
    simp only [execOp]
    split
    · simp [runtimePanic]
    · simp [runtimePanic]
    · simp [runtimePanic]
    · split
      · simp [runtimePanic]
      · refine notEnter_bind fun _ _ => notEnter_bind fun _ _ => ?_
        split
        · exact notEnter_bind fun _ _ => notEnter_value
        · exact notEnter_value
      · exact notEnter_value
    · exact notEnter_value
  case recv t c b =>
    simp only [execOp]
    refine notEnter_bind fun x _ => ?_
    split
    · exact notEnter_bind fun _ _ => by simp [Sem.run_pure]
    · simp [stuck]
  case select cs b =>
    simp only [execOp]
    exact notEnter_bind fun _ _ => by simp [Sem.run_pure]
  case go c =>
    simp only [execOp]
    exact notEnter_bind fun _ _ => by simp [Sem.run_pure]
  case defer c =>
    simp only [execOp]
    exact notEnter_bind fun _ _ => by simp [Sem.run_pure]
  case pick c x y =>
    simp only [execOp]
    exact notEnter_bind fun _ _ => notEnter_value
  all_goals simp only [execOp]
  all_goals first
    | exact hv _
    | exact hu _
    | (simp [Sem.run_pure]; done)
end Go.Proofs.YtacdbnhnhdlmpaaGreatDoor.W
end
