/- Trees of plain elements, as TreeDeep builds them: plain. -/
import Derived.Test.YtfelmdkeaacfeaaDoorCnt
namespace Go.Proofs.YtfelmdkeaacfeaaDoor.W
open Go
set_option linter.unusedVariables false
set_option linter.unusedSimpArgs false

def Tr.snoc (S : Tr) (n : Nd) : Tr := { S with slots := S.slots ++ [some n] }
theorem at_none_ge {S : Tr} {i : Nat} (h : S.slots.length ≤ i) : S.at i = none := by unfold Tr.at; rw [List.getElem?_eq_none h]; rfl
theorem at_snoc (S : Tr) (n : Nd) (x : Nat) : (S.snoc n).at x = if x = S.slots.length then some n else S.at x := by
  unfold Tr.at Tr.snoc
  simp only []
  by_cases h : x = S.slots.length
  · subst h; simp
  · rw [if_neg h]
    by_cases h2 : x < S.slots.length
    · rw [List.getElem?_append_left h2]
    · rw [List.getElem?_eq_none (by rw [List.length_append, List.length_singleton]; omega), List.getElem?_eq_none (by omega)]
theorem live_snoc (S : Tr) (n : Nd) : (S.snoc n).live = S.live + 1 := by unfold Tr.live Tr.snoc; simp
theorem hd_snoc (S : Tr) (n : Nd) (i : Nat) : (S.snoc n).hd i = S.hd i := rfl
theorem snoc_len (S : Tr) (n : Nd) : (S.snoc n).slots.length = S.slots.length + 1 := by unfold Tr.snoc; simp
theorem hO_snoc (S : Tr) (n : Nd) (o : Option Nat) : hO (S.snoc n) o = hO S o := by cases o <;> rfl
theorem Lk.no_kids {S K d} (h : Lk S K d) {i : Nat} (hi : S.at i = none) : K i = [] := by
  cases e : K i with
  | nil => rfl
  | cons k t => have := (h.kin i k (by rw [e]; simp)).1; rw [hi] at this; cases this
theorem Lk.no_par {S K d} (h : Lk S K d) {i : Nat} (hi : S.at i = none) (p : Nat) : i ∉ K p := fun hk => by
  have := (h.kin p i hk).2; rw [hi] at this; cases this

/-- a new slot, detached -/
theorem Lk.snoc {S K d} (h : Lk S K d) {n : Nd} (h1 : n.parent = 0) (h2 : n.first = 0) (h3 : n.last = 0) (h4 : n.prev = 0) (h5 : n.next = 0) (hl : S.slots.length < 1000000) : Lk (S.snoc n) K (fun x => if x = S.slots.length then 1 else d x) := by
  have hnew : S.at S.slots.length = none := at_none_ge (Nat.le_refl _)
  have hmem : ∀ {p k}, k ∈ K p → k ≠ S.slots.length ∧ p ≠ S.slots.length := fun {p k} hk => by
    have := h.kin p k hk
    constructor
    · rintro rfl; rw [hnew] at this; cases this.2
    · rintro rfl; rw [hnew] at this; cases this.1
  refine ⟨?_, ?_, ?_, ?_, h.nodup, ?_, ?_, ?_, by rw [snoc_len]; omega⟩
  · intro p k hk
    obtain ⟨e1, e2⟩ := hmem hk
    rw [at_snoc, at_snoc, if_neg e1, if_neg e2]
    exact h.kin p k hk
  · intro i m hi
    rw [at_snoc] at hi
    rw [hO_snoc, hO_snoc]
    by_cases e : i = S.slots.length
    · subst e
      rw [if_pos rfl] at hi
      cases hi
      rw [h.no_kids hnew]
      exact ⟨h2, h3⟩
    · rw [if_neg e] at hi; exact h.node i m hi
  · intro p j k m hk hm
    obtain ⟨e1, e2⟩ := hmem (List.mem_of_getElem? hk)
    rw [at_snoc, if_neg e1] at hm
    rw [hO_snoc, hO_snoc, hd_snoc]
    exact h.kid p j k m hk hm
  · intro i m hi hp
    rw [at_snoc] at hi
    by_cases e : i = S.slots.length
    · rw [if_pos e] at hi
      cases hi
      exact ⟨h1, h4, h5⟩
    · rw [if_neg e] at hi; exact h.top i m hi hp
  · intro p k hk
    obtain ⟨e1, e2⟩ := hmem hk
    simp only [if_neg e1, if_neg e2]
    exact h.dep p k hk
  · intro i hi hp
    rw [at_snoc] at hi
    by_cases e : i = S.slots.length
    · simp only [if_pos e]
    · rw [if_neg e] at hi
      simp only [if_neg e]
      exact h.one i hi hp
  · intro i
    by_cases e : i = S.slots.length
    · simp only [if_pos e]; omega
    · simp only [if_neg e]; exact h.low i

theorem pr_mem {S K d} (h : Lk S K d) {x y : Nat} (hp : pr S x = some y) : x ∈ K y := by
  unfold pr at hp
  cases e : S.at x with
  | none => rw [e] at hp; cases hp
  | some n =>
    obtain ⟨o, h1, h2, h3, h4⟩ := par_of h e
    have := pr_of h e h1 h2
    unfold pr at this
    rw [this] at hp
    exact (h4 y hp).1
/-- what stands outside a set that holds every node's parent is above none of its nodes -/
theorem contB_out {S K d} (h : Lk S K d) (A : Nat → Prop) (hA : ∀ x y, x ∈ K y → A x → A y) {a : Nat} (ha : ¬ A a) : ∀ (f : Nat) (o : Option Nat), (∀ x, o = some x → A x) → contB S a f o = false
  | 0, _, _ => rfl
  | f + 1, none, _ => rfl
  | f + 1, some x, ho => by
    have hx := ho x rfl
    show (a == x || contB S a f (pr S x)) = false
    have hne : (a == x) = false := by simp; rintro rfl; exact ha hx
    rw [hne, Bool.false_or]
    exact contB_out h A hA ha f (pr S x) (fun y hy => hA x y (pr_mem h hy) hx)
theorem contB_kid {S K d} (h : Lk S K d) {p k : Nat} (hk : k ∈ K p) (f : Nat) : contB S k f (some p) = false :=
  contB_out h (fun z => d z ≤ d p) (fun x y hx hz => by have := h.dep y x hx; omega) (by have := h.dep p k hk; omega) f _ (fun x hx => by cases hx; exact Nat.le_refl _)
theorem hgt_leaf {K : Nat → List Nat} {c : Nat} (h : K c = []) : ∀ f, hgt K f c = 1
  | 0 => rfl
  | f + 1 => by unfold hgt; rw [h]; rfl
theorem hgt_chain {K : Nat → List Nat} {a y : Nat} (h1 : ∀ j, a ≤ j → j < y → K j = [j + 1]) (h2 : K y = []) : ∀ f j, a ≤ j → j ≤ y → y - j ≤ f → hgt K f j = y - j + 1
  | 0, j, _, hj, hf => by rw [show hgt K 0 j = 1 from rfl]; omega
  | f + 1, j, ha, hj, hf => by
    by_cases e : j = y
    · subst e; rw [hgt_leaf h2]; omega
    · unfold hgt
      rw [h1 j ha (by omega)]
      simp only [List.foldl_cons, List.foldl_nil]
      rw [hgt_chain h1 h2 f (j + 1) (by omega) (by omega) (by omega)]
      omega

/-- the letters that TreeDeep uses -/
def Ltr (c : UInt8) : Prop := c = 98 ∨ c = 105 ∨ c = 112
/-- an element without attributes -/
def Pln (n : Nd) : Prop := n.kind = 2 ∧ (∃ c, Ltr c ∧ n.name = [c]) ∧ n.av = .slice none 0 0 ∧ n.attrs = [] ∧ n.data = []
def Doc (n : Nd) : Prop := n.kind = 1 ∧ n.name = [] ∧ n.av = .slice none 0 0 ∧ n.attrs = [] ∧ n.data = []
/-- a tree of such elements: nothing was ever dropped; the document stands in slot 0 -/
structure Dp (S : Tr) (K : Nat → List Nat) (d : Nat → Nat) : Prop where
  lk : Lk S K d
  free : S.free = []
  root : S.root = S.hd 0
  used : ∀ i, i < S.slots.length → (S.at i).isSome = true
  doc : ∃ n, S.at 0 = some n ∧ Doc n
  el : ∀ i n, i ≠ 0 → S.at i = some n → Pln n
  top : ∀ p, 0 ∉ K p
  one : (K 0).length ≤ 1

def newN (k : Int) (name : List UInt8) : Nd := ⟨k, name, .slice none 0 0, [], [], 0, 0, 0, 0, 0⟩
theorem Dp.pos {S K d} (h : Dp S K d) : 0 < S.slots.length := by obtain ⟨n, hn, _⟩ := h.doc; exact at_lt hn
theorem Dp.snoc {S K d} (h : Dp S K d) {c : UInt8} (hn : Ltr c) (hl : S.slots.length < 1000000) : Dp (S.snoc (newN 2 [c])) K (fun x => if x = S.slots.length then 1 else d x) := by
  have h0 := h.pos
  refine ⟨h.lk.snoc rfl rfl rfl rfl rfl hl, h.free, h.root, ?_, ?_, ?_, h.top, h.one⟩
  · intro i hi
    rw [snoc_len] at hi
    rw [at_snoc]
    by_cases e : i = S.slots.length
    · rw [if_pos e]; rfl
    · rw [if_neg e]; exact h.used i (by omega)
  · obtain ⟨n, hn, hd⟩ := h.doc
    exact ⟨n, by rw [at_snoc, if_neg (by omega)]; exact hn, hd⟩
  · intro i n hi hx
    rw [at_snoc] at hx
    by_cases e : i = S.slots.length
    · rw [if_pos e] at hx; cases hx; exact ⟨rfl, ⟨c, hn, rfl⟩, rfl, rfl, rfl⟩
    · rw [if_neg e] at hx; exact h.el i n hi hx

/-- a detached node hung under one without children or under an element -/
theorem Dp.link {S S' : Tr} {K : Nat → List Nat} {d d' : Nat → Nat} (h : Dp S K d) {p c : Nat} (hl : Linked S S' (K p) p (K p).length c) (hk : Lk S' (linkK K p (K p).length c) d') (hc : c ≠ 0) (hp : p = 0 → K 0 = []) : Dp S' (linkK K p (K p).length c) d' := by
  have hlK : ∀ q, q ≠ p → linkK K p (K p).length c q = K q := fun q hq => by unfold linkK; rw [if_neg hq]
  have hlP : linkK K p (K p).length c p = K p ++ [c] := by unfold linkK; rw [if_pos rfl]; simp
  have hback : ∀ x n', S'.at x = some n' → ∃ n, S.at x = some n ∧ n'.kind = n.kind ∧ n'.name = n.name ∧ n'.av = n.av ∧ n'.attrs = n.attrs ∧ n'.data = n.data := fun x n' hx => by
    rw [hl.at_] at hx
    obtain ⟨n, hn, rfl⟩ := Option.map_eq_some_iff.1 hx
    exact ⟨n, hn, rfl, rfl, rfl, rfl, rfl⟩
  refine ⟨hk, by rw [hl.free]; exact h.free, by rw [hl.root, hl.hd]; exact h.root, ?_, ?_, ?_, ?_, ?_⟩
  · intro i hi
    rw [hl.len] at hi
    have := h.used i hi
    rw [hl.at_]
    cases e : S.at i with
    | none => rw [e] at this; cases this
    | some n => rfl
  · obtain ⟨n, hn, hd⟩ := h.doc
    exact ⟨linkN S (K p) p (K p).length c 0 n, by rw [hl.at_, hn]; rfl, hd⟩
  · intro i n' hi hx
    obtain ⟨n, hn, e1, e2, e3, e4, e5⟩ := hback i n' hx
    obtain ⟨a1, a2, a3, a4, a5⟩ := h.el i n hi hn
    exact ⟨e1.trans a1, by rw [e2]; exact a2, e3.trans a3, e4.trans a4, e5.trans a5⟩
  · intro q hq
    by_cases e : q = p
    · subst e
      rw [hlP, List.mem_append, List.mem_singleton] at hq
      rcases hq with hq | hq
      · exact h.top q hq
      · exact hc hq.symm
    · rw [hlK q e] at hq; exact h.top q hq
  · by_cases e : p = 0
    · subst e
      rw [hlP, hp rfl]; simp
    · rw [hlK 0 (fun x => e x.symm)]; exact h.one

theorem Dp.may {S K d} (h : Dp S K d) {p k : Nat} {np nk : Nd} (hk : k ∈ K p) (hp : S.at p = some np) (hn : S.at k = some nk) : mayB S K d p k np nk = true := by
  have hk0 : k ≠ 0 := by rintro rfl; exact h.top p hk
  have hkn := h.el k nk hk0 hn
  unfold mayB
  rw [contB_kid h.lk hk]
  rw [hkn.1]
  by_cases e : p = 0
  · subst e
    obtain ⟨n, hn0, hd⟩ := h.doc
    rw [hp] at hn0
    cases hn0
    rw [hd.1]
    have h1 := h.one
    have hK : K 0 = [k] := by
      cases e : K 0 with
      | nil => rw [e] at hk; cases hk
      | cons a t =>
        rw [e] at hk h1
        cases t with
        | nil => simp at hk; rw [hk]
        | cons b t => simp at h1
    rw [hK]
    simp [elemB]
  · rw [(h.el p np e hp).1]
    simp
/-- may a detached node of those be hung under another -/
theorem Dp.may_new {S K d} (h : Dp S K d) {p c : Nat} {np nc : Nd} (hp : S.at p = some np) (hc : S.at c = some nc) (hc0 : c ≠ 0) (hp0 : p = 0 → K 0 = []) (A : Nat → Prop) (hA : ∀ x y, x ∈ K y → A x → A y) (ha : ¬ A c) (hpA : A p) : mayB S K d p c np nc = true := by
  unfold mayB
  rw [contB_out h.lk A hA ha _ _ (fun x hx => by cases hx; exact hpA), (h.el c nc hc0 hc).1]
  by_cases e : p = 0
  · subst e
    obtain ⟨n, hn0, hd⟩ := h.doc
    rw [hp] at hn0
    cases hn0
    rw [hd.1, hp0 rfl]
    simp
  · rw [(h.el p np e hp).1]
    simp
theorem live_all : ∀ (l : List (Option Nd)), (∀ i, i < l.length → ∃ n, l[i]? = some (some n)) → (l.filter Option.isSome).length = l.length
  | [], _ => rfl
  | x :: l, h => by
    obtain ⟨n, hn⟩ := h 0 (by simp)
    simp at hn
    subst hn
    have := live_all l (fun i hi => by have := h (i + 1) (by simp; omega); simpa using this)
    simp [this]
end Go.Proofs.YtfelmdkeaacfeaaDoor.W
