/- Texts joined: TwA TwB TwI Wlk Fam Whole Formed RegI. -/
import Derived.Test.YtacdbnhnhdlmpaaGreatDoorFU22
import Derived.Test.YtacdbnhnhdlmpaaGreatDoorFU10
import Derived.Test.YtacdbnhnhdlmpaaGreatDoorFU9
import Derived.BigQuiet
import Derived.Test.YtacdbnhnhdlmpaaGreatDoorFU13
import Derived.Test.YtacdbnhnhdlmpaaGreatDoorFU6
import Derived.OrdersIn
import Derived.TacticsIn
set_option maxRecDepth 100000
set_option maxHeartbeats 40000000
set_option linter.unusedVariables false
set_option linter.unusedSimpArgs false
section
namespace Go.Proofs.YtacdbnhnhdlmpaaGreatDoor.W
open Go.RowKit
structure NdOk (c : Nat) (n : Nd) : Prop where
  kd : n.kind = 1 ∨ n.kind = 2 ∨ n.kind = 3 ∨ n.kind = 4
  el : n.kind = 2 → n.data = [] ∧ elmB n.name = true
  tx : n.kind = 3 ∨ n.kind = 4 → n.name = [] ∧ n.attrs = [] ∧ Lib.validD n.data = true
  dc : n.kind = 1 → n.name = [] ∧ n.data = [] ∧ n.attrs = []
  at_ : ∀ a ∈ n.attrs, headB a.1 = true ∧ Lib.validD a.2 = true ∧ a.1.length ≤ 200 ∧ a.2.length ≤ 200
  nd : (n.attrs.map (·.1)).Nodup
  al : n.attrs.length ≤ 64
  dl : n.data.length ≤ 200 * (c + 1)
  nl : n.name.length ≤ 200
def FamOk (S : Tr) (l : List Nat) (np : Nd) : Prop :=
  l = [] ∨ np.kind = 2 ∨ (np.kind = 1 ∧ (∀ k n, k ∈ l → S.at k = some n → n.kind = 2 ∨ n.kind = 4) ∧
    ∀ k k' n n', k ∈ l → k' ∈ l → S.at k = some n → S.at k' = some n' → n.kind = 2 → n'.kind = 2 → k = k')
structure TrOk (c : Nat) (S : Tr) (K : Nat → List Nat) (d : Nat → Nat) : Prop where
  lk : Lk S K d
  nd : ∀ x n, S.at x = some n → NdOk c n
  fam : ∀ p np, S.at p = some np → FamOk S (K p) np
  fr : ∀ i ∈ S.free, S.slots[i]? = some none
  frnd : S.free.Nodup
  root : S.root = S.hd 0
  doc : ∃ n, S.at 0 = some n ∧ n.kind = 1
  other : ∀ x n, S.at x = some n → x ≠ 0 → n.kind ≠ 1
  nodoc : ∀ p, 0 ∉ K p
section
variable {ex : Prop} {E : Nat → Prop} {c : Nat} {S : Tr} {K : Nat → List Nat} {d : Nat → Nat} {σ : Nat → Nat}
theorem may_kinds {p k : Nat} {np nc : Nd} (h : mayB S K d p k np nc = true) : nc.kind ≠ 1 ∧ (np.kind = 2 ∨ (np.kind = 1 ∧ (nc.kind = 4 ∨ (nc.kind = 2 ∧ ∀ x n, x ∈ K p → x ≠ k → S.at x = some n → n.kind ≠ 2)))) := by
  unfold mayB at h
  split at h
  · cases h
  · rename_i h1
    have h1' : nc.kind ≠ 1 := fun e => h1 (by simp [e])
    refine ⟨h1', ?_⟩
    split at h
    · rename_i h2
      simp at h2
      rcases h2 with h2 | h2
      · exact .inl h2
      · exact .inr ⟨h2.1, .inl h2.2⟩
    · split at h
      · cases h
      · rename_i h3
        simp at h3
        refine .inr ⟨h3.1, .inr ⟨h3.2, fun x n hx hxk hn e => ?_⟩⟩
        rw [Bool.not_eq_true', List.any_eq_false] at h
        refine h x hx ?_
        unfold elemB
        simp [hn, e, hxk]
theorem FamOk.sub {S' : Tr} {l l' : List Nat} {np np' : Nd} (h : FamOk S l np) (hk : np'.kind = np.kind) (hs : ∀ k, k ∈ l' → k ∈ l) (hat : ∀ k n', S'.at k = some n' → ∃ n, S.at k = some n ∧ n.kind = n'.kind) : FamOk S' l' np' := by
  rcases h with h | h | ⟨h1, h2, h3⟩
  · subst h
    refine .inl (List.eq_nil_iff_forall_not_mem.2 fun k hk => by cases hs k hk)
  · exact .inr (.inl (hk.trans h))
  · refine .inr (.inr ⟨hk.trans h1, fun k n' hk' hn' => ?_, fun k k' n n' h4 h5 h6 h7 h8 h9 => ?_⟩)
    · obtain ⟨n, h4, h5⟩ := hat k n' hn'
      rw [← h5]; exact h2 k n (hs k hk') h4
    · obtain ⟨m, h10, h11⟩ := hat k n h6
      obtain ⟨m', h12, h13⟩ := hat k' n' h7
      exact h3 k k' m m' (hs k h4) (hs k' h5) h10 h12 (h11.trans h8) (h13.trans h9)
theorem FamOk.add {S' : Tr} {l' : List Nat} {p x : Nat} {np np' nc : Nd} (h : FamOk S (K p) np) (hm : mayB S K d p x np nc = true) (hc : S.at x = some nc) (hk : np'.kind = np.kind) (hs : ∀ k, k ∈ l' → k = x ∨ k ∈ K p) (hat : ∀ k n', S'.at k = some n' → ∃ n, S.at k = some n ∧ n.kind = n'.kind) : FamOk S' l' np' := by
  obtain ⟨h1, h2 | ⟨h2, h3⟩⟩ := may_kinds hm
  · exact .inr (.inl (hk.trans h2))
  · have hx : ∀ n', S'.at x = some n' → n'.kind = nc.kind := fun n' e => by
      obtain ⟨n, h4, h5⟩ := hat x n' e
      rw [hc] at h4; cases h4; exact h5.symm
    have hold : ∀ k n, k ∈ K p → S.at k = some n → n.kind = 2 ∨ n.kind = 4 := fun k n hk1 hn => by
      rcases h with h | h | ⟨_, h4, _⟩
      · rw [h] at hk1; cases hk1
      · omega
      · exact h4 k n hk1 hn
    have huq : ∀ k k' n n', k ∈ K p → k' ∈ K p → S.at k = some n → S.at k' = some n' → n.kind = 2 → n'.kind = 2 → k = k' := fun k k' n n' hk1 hk2 => by
      rcases h with h | h | ⟨_, _, h4⟩
      · rw [h] at hk1; cases hk1
      · omega
      · exact h4 k k' n n' hk1 hk2
    have hno : nc.kind = 2 → ∀ k n, k ∈ K p → k ≠ x → S.at k = some n → n.kind ≠ 2 := fun e k n hk1 hne hn => by
      rcases h3 with h3 | ⟨_, h3⟩
      · omega
      · exact h3 k n hk1 hne hn
    refine .inr (.inr ⟨hk.trans h2, fun k n' hk' hn' => ?_, fun k k' n n' h4 h5 h6 h7 h8 h9 => ?_⟩)
    · by_cases e : k = x
      · subst e; rw [hx n' hn']; omega
      · obtain ⟨n, h4, h5⟩ := hat k n' hn'
        rw [← h5]
        exact hold k n ((hs k hk').resolve_left e) h4
    · obtain ⟨m, h10, h11⟩ := hat k n h6
      obtain ⟨m', h12, h13⟩ := hat k' n' h7
      by_cases e : k = x
      · by_cases e' : k' = x
        · rw [e, e']
        · subst e
          have := hno ((hx n h6).symm.trans h8) k' m' ((hs k' h5).resolve_left e') e' h12
          omega
      · by_cases e' : k' = x
        · subst e'
          have := hno ((hx n' h7).symm.trans h9) k m ((hs k h4).resolve_left e) e h10
          omega
        · exact huq k k' m m' ((hs k h4).resolve_left e) ((hs k' h5).resolve_left e') h10 h12 (h11.trans h8) (h13.trans h9)
end
def Tr.addI (S : Tr) : Nat := (S.free.getLast?).getD S.slots.length
def Tr.add (S : Tr) (n : Nd) : Tr := match S.free.getLast? with
  | none => S.snoc n
  | some i => { S with slots := S.slots.set i (some n), free := S.free.dropLast }
structure Added (S S' : Tr) (s : Nat) (n : Nd) : Prop where
  at_ : ∀ x, S'.at x = if x = s then some n else S.at x
  no : S.at s = none
  len : S.slots.length ≤ S'.slots.length ∧ S'.slots.length ≤ S.slots.length + 1 ∧ s < S'.slots.length
  eb : S'.b = S.b
  es : S'.s = S.s
  root : S'.root = S.root
  free : ∀ i ∈ S'.free, i ∈ S.free ∧ i ≠ s
  frnd : S.free.Nodup → S'.free.Nodup
  slot : ∀ i, i ≠ s → i < S.slots.length → S'.slots[i]? = S.slots[i]?
theorem added_of {S : Tr} (hf : ∀ i ∈ S.free, S.slots[i]? = some none) (hn : S.free.Nodup) (n : Nd) : Added S (S.add n) S.addI n := by
  unfold Tr.add Tr.addI
  cases e : S.free.getLast? with
  | none =>
    have e' : S.free = [] := by simpa using e
    simp only [Option.getD_none]
    refine ⟨at_snoc S n, at_none_ge (Nat.le_refl _), by rw [snoc_len]; omega, rfl, rfl, rfl, fun i hi => ?_, id, fun i hi hl => ?_⟩
    · have : i ∈ S.free := hi
      rw [e'] at this; cases this
    · show (S.slots ++ [some n])[i]? = _
      rw [List.getElem?_append_left hl]
  | some i =>
    have hi := hf i (List.mem_of_getLast? e)
    have hil := (List.getElem?_eq_some_iff.1 hi).1
    simp only [Option.getD_some]
    have hsplit : S.free = S.free.dropLast ++ [i] := by
      obtain ⟨ys, h2⟩ := List.getLast?_eq_some_iff.1 e
      rw [h2]; simp
    refine ⟨fun x => ?_, ?_, by simp only [List.length_set]; omega, rfl, rfl, rfl, fun k hk => ?_, fun h => h.sublist (List.dropLast_sublist _), fun k hk hl => ?_⟩
    · show ((S.slots.set i (some n))[x]?).join = _
      rw [List.getElem?_set]
      by_cases h : i = x
      · subst h; rw [if_pos rfl, if_pos hil, if_pos rfl]; rfl
      · rw [if_neg h, if_neg (fun h' => h h'.symm)]; rfl
    · unfold Tr.at; rw [hi]; rfl
    · have hk' : k ∈ S.free.dropLast := hk
      refine ⟨(List.dropLast_sublist _).subset hk', ?_⟩
      rintro rfl
      rw [hsplit, List.nodup_append] at hn
      exact hn.2.2 k hk' k (by simp) rfl
    · show (S.slots.set i (some n))[k]? = _
      rw [List.getElem?_set_ne (fun h => hk h.symm)]
theorem Added.hd {S S' : Tr} {s : Nat} {n : Nd} (h : Added S S' s n) (x : Nat) : S'.hd x = S.hd x := by unfold Tr.hd; rw [h.eb, h.es]
theorem Added.hO {S S' : Tr} {s : Nat} {n : Nd} (h : Added S S' s n) (o : Option Nat) : Go.Proofs.YtacdbnhnhdlmpaaGreatDoor.W.hO S' o = Go.Proofs.YtacdbnhnhdlmpaaGreatDoor.W.hO S o := by cases o with
  | none => rfl
  | some x => exact h.hd x
def dAdd (d : Nat → Nat) (s : Nat) (x : Nat) : Nat := if x = s then 1 else d x
theorem Lk.added {S S' : Tr} {K d} (h : Lk S K d) {s : Nat} {n : Nd} (k : Added S S' s n) (h1 : n.parent = 0) (h2 : n.first = 0) (h3 : n.last = 0) (h4 : n.prev = 0) (h5 : n.next = 0) (hl : S.slots.length < 1000000) : Lk S' K (dAdd d s) := by
  have hks : K s = [] := h.no_kids k.no
  have hnp : ∀ p, s ∉ K p := fun p => h.no_par k.no p
  have hat : ∀ x, x ≠ s → S'.at x = S.at x := fun x hx => by rw [k.at_, if_neg hx]
  have hne : ∀ p q, q ∈ K p → q ≠ s := fun p q hq e => hnp p (e ▸ hq)
  have hpe : ∀ p q, q ∈ K p → p ≠ s := fun p q hq e => by rw [e, hks] at hq; cases hq
  have hats : S'.at s = Option.some n := by rw [k.at_, if_pos rfl]
  refine ⟨fun p q hq => ?_, fun i m hi => ?_, fun p j q m hj hm => ?_, fun i m hi hp => ?_, h.nodup, fun p q hq => ?_, fun i hi hp => ?_, fun i => ?_, by have := k.len; omega⟩
  · rw [hat p (hpe p q hq), hat q (hne p q hq)]; exact h.kin p q hq
  · by_cases e : i = s
    · subst e
      rw [hats] at hi; cases hi
      rw [h2, h3, hks]; exact ⟨rfl, rfl⟩
    · rw [hat i e] at hi
      rw [k.hO, k.hO]; exact h.node i m hi
  · have hq := List.mem_of_getElem? hj
    rw [hat q (hne p q hq)] at hm
    rw [k.hd, k.hO, k.hO]; exact h.kid p j q m hj hm
  · by_cases e : i = s
    · subst e
      rw [hats] at hi; cases hi
      exact ⟨h1, h4, h5⟩
    · rw [hat i e] at hi
      exact h.top i m hi hp
  · unfold dAdd
    rw [if_neg (hne p q hq), if_neg (hpe p q hq)]; exact h.dep p q hq
  · unfold dAdd
    by_cases e : i = s
    · rw [if_pos e]
    · rw [if_neg e]; rw [hat i e] at hi; exact h.one i hi hp
  · unfold dAdd
    have := h.low i
    split <;> omega
section
variable {ex : Prop} {E : Nat → Prop} {c : Nat} {S S' : Tr} {K : Nat → List Nat} {d : Nat → Nat} {σ : Nat → Nat}
theorem TrOk.added (T : TrOk c S K d) {s : Nat} {n : Nd} (k : Added S S' s n) (h1 : n.parent = 0) (h2 : n.first = 0) (h3 : n.last = 0) (h4 : n.prev = 0) (h5 : n.next = 0) (hl : S.slots.length < 1000000) (hn : NdOk c n) (hk : n.kind ≠ 1) : TrOk c S' K (dAdd d s) := by
  have hs0 : s ≠ 0 := fun e => by
    obtain ⟨n0, h0, _⟩ := T.doc
    have := k.no
    rw [e, h0] at this; cases this
  refine ⟨T.lk.added k h1 h2 h3 h4 h5 hl, fun x m hx => ?_, fun p np hp => ?_, fun i hi => ?_, k.frnd T.frnd, by rw [k.root, k.hd]; exact T.root, ?_, fun x m hx h0 => ?_, T.nodoc⟩
  · rw [k.at_] at hx
    by_cases e : x = s
    · rw [if_pos e] at hx; cases hx; exact hn
    · rw [if_neg e] at hx; exact T.nd x m hx
  · rw [k.at_] at hp
    by_cases e : p = s
    · exact .inl (by rw [e]; exact T.lk.no_kids k.no)
    · rw [if_neg e] at hp
      rcases T.fam p np hp with h | h | ⟨h6, h7, h8⟩
      · exact .inl h
      · exact .inr (.inl h)
      · have hin : ∀ q m, q ∈ K p → S'.at q = some m → S.at q = some m := fun q m hq hm => by
          rw [k.at_, if_neg (fun (e2 : q = s) => T.lk.no_par k.no p (e2 ▸ hq))] at hm; exact hm
        exact .inr (.inr ⟨h6, fun q m hq hm => h7 q m hq (hin q m hq hm), fun q q' m m' a1 a2 a3 a4 => h8 q q' m m' a1 a2 (hin q m a1 a3) (hin q' m' a2 a4)⟩)
  · obtain ⟨h6, h7⟩ := k.free i hi
    have := T.fr i h6
    rw [k.slot i h7 (List.getElem?_eq_some_iff.1 this).1]; exact this
  · obtain ⟨n0, h0, h6⟩ := T.doc
    exact ⟨n0, by rw [k.at_, if_neg (fun e => hs0 e.symm)]; exact h0, h6⟩
  · rw [k.at_] at hx
    by_cases e : x = s
    · rw [if_pos e] at hx; cases hx; exact hk
    · rw [if_neg e] at hx; exact T.other x m hx h0
/-! ### links -/
/-! ### contents -/
theorem TrOk.map (T : TrOk c S K d) {K' : Nat → List Nat} {d' : Nat → Nat} (f : Nat → Nd → Nd) (hf : Keeps f) (hnm : ∀ x n, (f x n).name = n.name) (hat : ∀ x, S'.at x = (S.at x).map (f x)) (hb : S'.b = S.b) (hs : S'.s = S.s) (hfr : S'.free = S.free) (hr : S'.root = S.root) (hl : S'.slots.length = S.slots.length) (hL : Lk S' K' d')
    (hfam : ∀ p np, S.at p = some np → FamOk S' (K' p) (f p np)) (hz : ∀ p, 0 ∉ K' p) : TrOk c S' K' d' := by
  have back : ∀ {i n'}, S'.at i = some n' → ∃ n, S.at i = some n ∧ n' = f i n := fun {i n'} hi => by
    rw [hat] at hi
    obtain ⟨n, hn, rfl⟩ := Option.map_eq_some_iff.1 hi
    exact ⟨n, hn, rfl⟩
  refine ⟨hL, fun x n' hx => ?_, fun p n' hp => ?_, fun i hi => ?_, by rw [hfr]; exact T.frnd, by rw [hr]; unfold Tr.hd; rw [hb, hs]; exact T.root, ?_, fun x n' hx h0 => ?_, hz⟩
  · obtain ⟨n, hn, rfl⟩ := back hx
    obtain ⟨k1, k2, k3, k4⟩ := hf x n
    have h := T.nd x n hn
    exact ⟨by rw [k1]; exact h.kd, by rw [k1, k4, hnm]; exact h.el, by rw [k1, k4, hnm, k3]; exact h.tx, by rw [k1, k4, hnm, k3]; exact h.dc, by rw [k3]; exact h.at_, by rw [k3]; exact h.nd, by rw [k3]; exact h.al, by rw [k4]; exact h.dl, by rw [hnm]; exact h.nl⟩
  · obtain ⟨n, hn, rfl⟩ := back hp
    exact hfam p n hn
  · rw [hfr] at hi
    have h1 := T.fr i hi
    have h2 : S.at i = none := by unfold Tr.at; rw [h1]; rfl
    have h3 : S'.at i = none := by rw [hat, h2]; rfl
    have h4 : i < S'.slots.length := by rw [hl]; exact (List.getElem?_eq_some_iff.1 h1).1
    unfold Tr.at at h3
    rw [List.getElem?_eq_getElem h4] at h3 ⊢
    generalize S'.slots[i] = y at h3 ⊢
    cases y with
    | none => rfl
    | some n => cases h3
  · obtain ⟨n0, h1, h2⟩ := T.doc
    exact ⟨f 0 n0, by rw [hat, h1]; rfl, by rw [(hf 0 n0).1]; exact h2⟩
  · obtain ⟨n, hn, rfl⟩ := back hx
    rw [(hf x n).1]; exact T.other x n hn h0
end
def hM (S : Tr) (σ : Nat → Nat) (v : Int) : Int := if v < 0 then 0 else S.hd (σ v.toNat)
section
variable {ex : Prop} {E : Nat → Prop} {c : Nat} {S S' : Tr} {K K' : Nat → List Nat} {d d' : Nat → Nat} {σ : Nat → Nat}
theorem keeps_cl (S S1 : Tr) (l l1 : List Nat) (q i p j x : Nat) : Keeps (fun y n => linkN S1 l1 p j x y (cutN S l q i x y n)) := fun _ _ => ⟨rfl, rfl, rfl, rfl⟩
theorem linkK_mem {K : Nat → List Nat} {p j x q k : Nat} (h : k ∈ linkK K p j x q) : k ∈ K q ∨ (q = p ∧ k = x) := by
  unfold linkK at h
  split at h
  · rename_i e
    rcases List.mem_append.1 h with h | h
    · exact .inl (e ▸ List.mem_of_mem_take h)
    · rcases List.mem_cons.1 h with h | h
      · exact .inr ⟨e, h⟩
      · exact .inl (e ▸ List.mem_of_mem_drop h)
  · exact .inl h
theorem cutK_mem {K : Nat → List Nat} {p j q k : Nat} (h : k ∈ cutK K p j q) : k ∈ K q := by
  unfold cutK at h
  split at h
  · rename_i e; exact e ▸ List.mem_of_mem_eraseIdx h
  · exact h
theorem TrOk.ins (T : TrOk c S K d) {p x : Nat} {o : Option Nat} {np nx : Nd} {l : List (List Value)} (hp : S.at p = some np) (hx : S.at x = some nx) (hmay : mayB S K d p x np nx = true) (h : InsOut S K x p o nx S' K' l) (L' : Lk S' K' d') : TrOk c S' K' d' := by
  have hx0 : x ≠ 0 := fun e => by
    obtain ⟨n0, h1, h2⟩ := T.doc
    subst e
    rw [hx] at h1; cases h1
    exact (may_kinds hmay).1 h2
  have key : ∀ (f : Nat → Nd → Nd), Keeps f → (∀ y n, (f y n).name = n.name) → (∀ y, S'.at y = (S.at y).map (f y)) → S'.b = S.b → S'.s = S.s → S'.free = S.free → S'.root = S.root → S'.slots.length = S.slots.length → (∀ q k, k ∈ K' q → k ∈ K q ∨ (q = p ∧ k = x)) → TrOk c S' K' d' := by
    intro f hf hnm hat hb hs hfr hr hl hmem
    refine T.map f hf hnm hat hb hs hfr hr hl L' (fun q nq hq => ?_) (fun q h => ?_)
    · have hback : ∀ k n', S'.at k = some n' → ∃ n, S.at k = some n ∧ n.kind = n'.kind := fun k n' hn => by
        rw [hat] at hn
        obtain ⟨n, h1, rfl⟩ := Option.map_eq_some_iff.1 hn
        exact ⟨n, h1, (hf k n).1.symm⟩
      by_cases e : q = p
      · subst e
        rw [hp] at hq; cases hq
        exact (T.fam q np hp).add hmay hx (hf q np).1 (fun k h => (hmem q k h).elim .inr (fun h => .inl h.2)) hback
      · exact (T.fam q nq hq).sub (hf q nq).1 (fun k h => (hmem q k h).resolve_right (fun h => e h.1)) hback
    · rcases hmem q 0 h with h | ⟨_, h⟩
      · exact T.nodoc q h
      · exact hx0 h.symm
  cases h with
  | det j h1 h2 h3 h4 h5 =>
    subst h4
    exact key (linkN S (K p) p j x) (keeps_link S (K p) p j x) (fun _ _ => rfl) h3.at_ h3.b h3.s h3.free h3.root h3.len (fun q k h => linkK_mem h)
  | att q i j S1 o' h1 h2 h3 h4 h5 h6 h7 =>
    subst h6
    refine key (fun y n => linkN S1 (cutK K q i p) p j x y (cutN S (K q) q i x y n)) (keeps_cl _ _ _ _ _ _ _ _ _) (fun _ _ => rfl) (fun y => ?_) (h5.b.trans h2.b) (h5.s.trans h2.s) (h5.free.trans h2.free) (h5.root.trans h2.root) (h5.len.trans h2.len) (fun q' k h => (linkK_mem h).imp (fun h => cutK_mem h) id)
    rw [h5.at_, h2.at_]
    cases S.at y <;> rfl
end
def wlk (K : Nat → List Nat) : Nat → Nat → List Nat
  | 0, i => [i]
  | f + 1, i => i :: (K i).flatMap (wlk K f)
theorem flatMap_take_succ {α β : Type} {l : List α} {j : Nat} {k : α} (h : l[j]? = some k) (f : α → List β) : (l.take (j + 1)).flatMap f = (l.take j).flatMap f ++ f k := by
  rw [List.take_add_one, h, List.flatMap_append]; simp
section
variable {S : Tr} {K : Nat → List Nat} {d : Nat → Nat}
theorem Lk.parO (h : Lk S K d) (x : Nat) : (∃ q, x ∈ K q) ∨ ∀ q, x ∉ K q := by
  by_cases e : ∃ q, x ∈ K q
  · exact .inl e
  · exact .inr (fun q hq => e ⟨q, hq⟩)
end



end Go.Proofs.YtacdbnhnhdlmpaaGreatDoor.W
end
section
namespace Go.Proofs.YtacdbnhnhdlmpaaGreatDoor.W
open Go
end Go.Proofs.YtacdbnhnhdlmpaaGreatDoor.W
end
