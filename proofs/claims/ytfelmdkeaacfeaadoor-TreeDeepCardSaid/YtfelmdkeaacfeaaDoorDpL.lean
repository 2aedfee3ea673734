/- The two loops of TreeDeep: plain. -/
import Derived.Test.YtfelmdkeaacfeaaDoorDp
namespace Go.Proofs.YtfelmdkeaacfeaaDoor.W
open Go
set_option linter.unusedVariables false
set_option linter.unusedSimpArgs false

/-- the links when c, with all that hangs below it (T), is hung under p as its last child -/
theorem hang {S : Tr} {K : Nat → List Nat} {d : Nat → Nat} (h : Lk S K d) {p c : Nat} (hp : (S.at p).isSome = true) (hc : (S.at c).isSome = true) (hdet : ∀ q, c ∉ K q) (T : Nat → Prop) [DecidablePred T] (hTc : T c) (hTp : ¬ T p)
    (hT : ∀ q k, k ∈ K q → (T q ↔ T k)) (hTt : ∀ x, T x → (S.at x).isSome = true → (∀ q, x ∉ K q) → x = c) (hdp : ∀ x, T x → d x + d p ≤ 128) :
    ∀ S', Linked S S' (K p) p (K p).length c → Lk S' (linkK K p (K p).length c) (fun x => if T x then d x + d p else d x) := by
  intro S' hl
  obtain ⟨np, hp⟩ := Option.isSome_iff_exists.1 hp
  obtain ⟨nc, hc⟩ := Option.isSome_iff_exists.1 hc
  have hpc : p ≠ c := by rintro rfl; exact hTp hTc
  refine Lk.link h hp hc (Nat.le_refl _) hdet hpc hl.at_ hl.len hl.hd ?_ ?_ ?_ ?_ ?_
  · simp only [if_pos hTc, if_neg hTp]
    rw [h.one c (by rw [hc]; rfl) hdet]; omega
  · intro q k hk
    have h1 := hT q k hk
    have h2 := h.dep q k hk
    by_cases e : T q
    · simp only [if_pos e, if_pos (h1.1 e)]; omega
    · simp only [if_neg e, if_neg (fun x => e (h1.2 x))]; omega
  · simp only [if_neg hTp]
  · intro x
    by_cases e : T x
    · simp only [if_pos e]; exact hdp x e
    · simp only [if_neg e]; exact h.low x
  · intro x hx hxc hq
    have : ¬ T x := fun e => hxc (hTt x e hx hq)
    simp only [if_neg this]
    exact h.one x hx hq
theorem linkK_other {K : Nat → List Nat} {p j c q : Nat} (h : q ≠ p) : linkK K p j c q = K q := by unfold linkK; rw [if_neg h]
theorem linkK_last {K : Nat → List Nat} {p c : Nat} : linkK K p (K p).length c p = K p ++ [c] := by unfold linkK; rw [if_pos rfl]; simp
theorem mem_linkK {K : Nat → List Nat} {p c q k : Nat} (h : k ∈ linkK K p (K p).length c q) : k ∈ K q ∨ (q = p ∧ k = c) := by
  by_cases e : q = p
  · subst e
    rw [linkK_last, List.mem_append, List.mem_singleton] at h
    rcases h with h | h
    · exact .inl h
    · exact .inr ⟨rfl, h⟩
  · rw [linkK_other e] at h; exact .inl h

/-- the first loop: i nodes, each below the one before -/
structure C1 (S : Tr) (K : Nat → List Nat) (d : Nat → Nat) (p i : Nat) : Prop where
  dp : Dp S K d
  at_ : (S.at p).isSome = true
  leaf : K p = []
  dep : d p = min (i + 1) 128
  zero : p = 0 ↔ i = 0
  len : S.slots.length = i + 1

abbrev newC (c : UInt8) (S : Tr) : Tr := S.snoc (newN 2 [c])
abbrev newI (S : Tr) : Tr := newC 105 S
theorem ltr_b : Ltr 98 := .inl rfl
theorem ltr_i : Ltr 105 := .inr (.inl rfl)
theorem ltr_p : Ltr 112 := .inr (.inr rfl)
def dNew (S : Tr) (d : Nat → Nat) (x : Nat) : Nat := if x = S.slots.length then 1 else d x
def dHang (d : Nat → Nat) (T : Nat → Prop) [DecidablePred T] (p x : Nat) : Nat := if T x then d x + d p else d x

theorem at_lt' {S : Tr} {i : Nat} (h : (S.at i).isSome = true) : i < S.slots.length := by obtain ⟨n, hn⟩ := Option.isSome_iff_exists.1 h; exact at_lt hn
theorem at_snoc_old {S : Tr} {n : Nd} {i : Nat} (h : (S.at i).isSome = true) : (S.snoc n).at i = S.at i := by rw [at_snoc, if_neg (by have := at_lt' h; omega)]
theorem at_snoc_new (S : Tr) (n : Nd) : (S.snoc n).at S.slots.length = some n := by rw [at_snoc, if_pos rfl]

/-- what holds behind the new node of a round: the old place p and the new c -/
theorem C1.made {S K d p i} {c : UInt8} (hc : Ltr c) (h : C1 S K d p i) (hi : i < 1000) : Dp (newC c S) K (dNew S d) ∧ ((newC c S).at p).isSome = true ∧ dNew S d p = min (i + 1) 128 ∧ p ≠ i + 1 ∧ (∀ q, i + 1 ∉ K q) ∧ K (i + 1) = [] ∧ (newC c S).at (i + 1) = some (newN 2 [c]) := by
  have hn : S.at (i + 1) = none := at_none_ge (by rw [h.len]; omega)
  have hpl := at_lt' h.at_
  have hlen := h.len
  refine ⟨h.dp.snoc hc (by omega), by rw [at_snoc_old h.at_]; exact h.at_, ?_, by omega, h.dp.lk.no_par hn, h.dp.lk.no_kids hn, ?_⟩
  · unfold dNew; rw [if_neg (by omega)]; exact h.dep
  · rw [← h.len]; exact at_snoc_new S _
/-- too deep: the new node stays alone -/
theorem C1.stay {S K d p i} {c : UInt8} (hl' : Ltr c) (h : C1 S K d p i) (hi : i < 1000) (h128 : 128 < i + 2) : C1 (newC c S) K (dNew S d) p (i + 1) := by
  obtain ⟨a1, a2, a3, a4, a5, a6, a7⟩ := C1.made hl' h hi
  have := h.zero
  exact ⟨a1, a2, h.leaf, by omega, by omega, by rw [snoc_len, h.len]⟩
theorem C1.lk {S K d p i} {c : UInt8} (hl' : Ltr c) (h : C1 S K d p i) (hi : i < 1000) (h128 : i + 2 ≤ 128) : ∀ S', Linked (newC c S) S' (K p) p (K p).length (i + 1) → Lk S' (linkK K p (K p).length (i + 1)) (dHang (dNew S d) (fun x => x = i + 1) p) := by
  obtain ⟨a1, a2, a3, a4, a5, a6, a7⟩ := C1.made hl' h hi
  refine hang a1.lk a2 (by rw [a7]; rfl) a5 (fun x => x = i + 1) rfl a4 ?_ ?_ ?_
  · intro q k hk
    constructor
    · rintro rfl; rw [a6] at hk; cases hk
    · rintro rfl; exact absurd hk (a5 q)
  · intro x hx _ _; exact hx
  · rintro x rfl
    have : dNew S d (i + 1) = 1 := by unfold dNew; rw [if_pos h.len.symm]
    omega
theorem C1.hung {S K d p i} {c : UInt8} (hl' : Ltr c) (h : C1 S K d p i) (hi : i < 1000) (h128 : i + 2 ≤ 128) {S'} (hl : Linked (newC c S) S' (K p) p (K p).length (i + 1)) : C1 S' (linkK K p (K p).length (i + 1)) (dHang (dNew S d) (fun x => x = i + 1) p) (i + 1) (i + 1) := by
  obtain ⟨a1, a2, a3, a4, a5, a6, a7⟩ := C1.made hl' h hi
  refine ⟨a1.link hl (C1.lk hl' h hi h128 S' hl) (by omega) (fun e => by subst e; exact h.leaf), ?_, ?_, ?_, by omega, ?_⟩
  · rw [hl.at_, a7]; rfl
  · rw [linkK_other (by omega)]; exact a6
  · unfold dHang; rw [if_pos rfl]
    have : dNew S d (i + 1) = 1 := by unfold dNew; rw [if_pos h.len.symm]
    omega
  · rw [hl.len, snoc_len, h.len]
theorem C1.may {S K d p i} {c : UInt8} (hl' : Ltr c) (h : C1 S K d p i) (hi : i < 1000) {np nc : Nd} (hp : (newC c S).at p = some np) (hc : (newC c S).at (i + 1) = some nc) : mayB (newC c S) K (dNew S d) p (i + 1) np nc = true := by
  obtain ⟨a1, a2, a3, a4, a5, a6, a7⟩ := C1.made hl' h hi
  exact a1.may_new hp hc (by omega) (fun e => by subst e; exact h.leaf) (fun x => x ≠ i + 1) (fun x y hx _ => by rintro rfl; rw [a6] at hx; cases hx) (fun h => h rfl) a4

/-- the second loop: a chain of y - N + 1 nodes beside the first -/
structure C2 (S : Tr) (K : Nat → List Nat) (d : Nat → Nat) (p D N y : Nat) : Prop where
  dp : Dp S K d
  at_ : (S.at p).isSome = true
  leaf : K p = []
  dep : d p = D
  pN : p < N
  Ny : N ≤ y
  len : S.slots.length = y + 1
  chain : ∀ j, N ≤ j → j < y → K j = [j + 1]
  last : K y = []
  deps : ∀ j, N ≤ j → j ≤ y → d j = j - N + 1
  apart : ∀ q k, k ∈ K q → (N ≤ q ↔ N ≤ k)
  top : ∀ q, N ∉ K q

theorem start_lk (b s : Int) : Lk ⟨b, s, [some (newN 1 [])], [], hdl b s 0⟩ (fun _ => []) (fun _ => 1) := by
  have hat : ∀ i n, (⟨b, s, [some (newN 1 [])], [], hdl b s 0⟩ : Tr).at i = some n → n = newN 1 [] := fun i n hi => by
    cases i with
    | zero => cases hi; rfl
    | succ i => simp [Tr.at] at hi
  refine ⟨fun p k hk => (by simp at hk), fun i n hi => ?_, fun p j k n hk _ => (by simp at hk), fun i n hi _ => ?_, fun p => List.nodup_nil, fun p k hk => (by simp at hk), fun _ _ _ => rfl, fun _ => by omega, by simp⟩
  · rw [hat i n hi]; exact ⟨rfl, rfl⟩
  · rw [hat i n hi]; exact ⟨rfl, rfl, rfl⟩
theorem start_c1 (b s : Int) : C1 ⟨b, s, [some (newN 1 [])], [], hdl b s 0⟩ (fun _ => []) (fun _ => 1) 0 0 := by
  refine ⟨⟨start_lk b s, rfl, rfl, ?_, ⟨newN 1 [], rfl, rfl, rfl, rfl, rfl, rfl⟩, ?_, fun p => (by simp), by simp⟩, rfl, rfl, rfl, by simp, rfl⟩
  · intro i hi
    simp at hi
    subst hi
    rfl
  · intro i n hi hx
    cases i with
    | zero => exact absurd rfl hi
    | succ i => simp [Tr.at] at hx
theorem C1.second {S K d p i} (h : C1 S K d p i) (hi : i < 1000) : C2 (newI S) K (dNew S d) p (min (i + 1) 128) (i + 1) (i + 1) := by
  have hn : S.at (i + 1) = none := at_none_ge (by rw [h.len]; omega)
  have hpl := at_lt' h.at_
  have hlen := h.len
  refine ⟨h.dp.snoc ltr_i (by omega), by rw [at_snoc_old h.at_]; exact h.at_, h.leaf, ?_, by omega, Nat.le_refl _, by rw [snoc_len, h.len], fun j h1 h2 => by omega, h.dp.lk.no_kids hn, ?_, ?_, h.dp.lk.no_par hn⟩
  · unfold dNew; rw [if_neg (by omega)]; exact h.dep
  · intro j h1 h2
    obtain rfl : j = i + 1 := by omega
    unfold dNew; rw [if_pos h.len.symm]; omega
  · intro q k hk
    have := h.dp.lk.kin q k hk
    have h1 := at_lt' this.1
    have h2 := at_lt' this.2
    omega

theorem C2.made {S K d p D N y} (h : C2 S K d p D N y) (hy : y < 1000) : Dp (newI S) K (dNew S d) ∧ ((newI S).at y).isSome = true ∧ dNew S d y = y - N + 1 ∧ (∀ q, y + 1 ∉ K q) ∧ K (y + 1) = [] ∧ (newI S).at (y + 1) = some (newN 2 [105]) := by
  have hn : S.at (y + 1) = none := at_none_ge (by rw [h.len]; omega)
  have hlen := h.len
  have hu := h.dp.used y (by omega)
  refine ⟨h.dp.snoc ltr_i (by omega), by rw [at_snoc_old hu]; exact hu, ?_, h.dp.lk.no_par hn, h.dp.lk.no_kids hn, ?_⟩
  · unfold dNew; rw [if_neg (by omega)]; exact h.deps y h.Ny (Nat.le_refl _)
  · rw [← h.len]; exact at_snoc_new S _
theorem C2.lk {S K d p D N y} (h : C2 S K d p D N y) (hy : y < 1000) (h128 : y - N + 2 ≤ 128) : ∀ S', Linked (newI S) S' (K y) y (K y).length (y + 1) → Lk S' (linkK K y (K y).length (y + 1)) (dHang (dNew S d) (fun x => x = y + 1) y) := by
  obtain ⟨a1, a2, a3, a5, a6, a7⟩ := h.made hy
  refine hang a1.lk a2 (by rw [a7]; rfl) a5 (fun x => x = y + 1) rfl (by omega) ?_ ?_ ?_
  · intro q k hk
    constructor
    · rintro rfl; rw [a6] at hk; cases hk
    · rintro rfl; exact absurd hk (a5 q)
  · intro x hx _ _; exact hx
  · rintro x rfl
    have : dNew S d (y + 1) = 1 := by unfold dNew; rw [if_pos h.len.symm]
    omega
theorem C2.hung {S K d p D N y} (h : C2 S K d p D N y) (hy : y < 1000) (h128 : y - N + 2 ≤ 128) {S'} (hl : Linked (newI S) S' (K y) y (K y).length (y + 1)) : C2 S' (linkK K y (K y).length (y + 1)) (dHang (dNew S d) (fun x => x = y + 1) y) p D N (y + 1) := by
  obtain ⟨a1, a2, a3, a5, a6, a7⟩ := h.made hy
  have hlen := h.len
  have hpN := h.pN
  have hNy := h.Ny
  have hyK : K y = [] := h.last
  have hlast : linkK K y (K y).length (y + 1) y = [y + 1] := by rw [linkK_last, hyK]; rfl
  have hd1 : dNew S d (y + 1) = 1 := by unfold dNew; rw [if_pos h.len.symm]
  refine ⟨a1.link hl (h.lk hy h128 S' hl) (by omega) (fun e => by subst e; exact hyK), ?_, ?_, ?_, hpN, by omega, ?_, ?_, ?_, ?_, ?_, ?_⟩
  · rw [hl.at_, at_snoc_old h.at_]
    obtain ⟨n, hn⟩ := Option.isSome_iff_exists.1 h.at_
    rw [hn]; rfl
  · rw [linkK_other (by omega)]; exact h.leaf
  · unfold dHang dNew; rw [if_neg (by omega), if_neg (by omega)]; exact h.dep
  · rw [hl.len, snoc_len, h.len]
  · intro j h1 h2
    by_cases e : j = y
    · subst e; exact hlast
    · rw [linkK_other e]; exact h.chain j h1 (by omega)
  · rw [linkK_other (by omega)]; exact a6
  · intro j h1 h2
    unfold dHang
    by_cases e : j = y + 1
    · subst e; rw [if_pos rfl, hd1, a3]; omega
    · rw [if_neg e]
      unfold dNew; rw [if_neg (by omega)]
      exact h.deps j h1 (by omega)
  · intro q k hk
    rcases mem_linkK hk with hk | ⟨rfl, rfl⟩
    · exact h.apart q k hk
    · omega
  · intro q hq
    rcases mem_linkK hq with hq | ⟨_, e⟩
    · exact h.top q hq
    · omega
theorem C2.may {S K d p D N y} (h : C2 S K d p D N y) (hy : y < 1000) {np nc : Nd} (hp : (newI S).at y = some np) (hc : (newI S).at (y + 1) = some nc) : mayB (newI S) K (dNew S d) y (y + 1) np nc = true := by
  obtain ⟨a1, a2, a3, a5, a6, a7⟩ := h.made hy
  exact a1.may_new hp hc (by omega) (fun e => by subst e; exact h.last) (fun x => x ≠ y + 1) (fun x y' hx _ => by rintro rfl; rw [a6] at hx; cases hx) (fun h => h rfl) (by omega)
/-- the chain hung below p -/
theorem C2.hgt {S K d p D N y} (h : C2 S K d p D N y) (f : Nat) (hf : y - N ≤ f) : hgt K f N = y - N + 1 := hgt_chain h.chain h.last f N (Nat.le_refl _) h.Ny hf
theorem C2.top1 {S K d p D N y} (h : C2 S K d p D N y) : d N = 1 := by rw [h.deps N (Nat.le_refl _) h.Ny]; omega
theorem C2.atN {S K d p D N y} (h : C2 S K d p D N y) : (S.at N).isSome = true := h.dp.used N (by have := h.len; have := h.Ny; omega)
theorem C2.fin_lk {S K d p D N y} (h : C2 S K d p D N y) (h128 : D + (y - N + 1) ≤ 128) : ∀ S', Linked S S' (K p) p (K p).length N → Lk S' (linkK K p (K p).length N) (dHang d (fun x => N ≤ x ∧ x ≤ y) p) := by
  have hlen := h.len
  have hpN := h.pN
  have hNy := h.Ny
  have hb : ∀ q k, k ∈ K q → q ≤ y ∧ k ≤ y := fun q k hk => by
    have := h.dp.lk.kin q k hk
    have h1 := at_lt' this.1
    have h2 := at_lt' this.2
    omega
  refine hang h.dp.lk h.at_ h.atN h.top (fun x => N ≤ x ∧ x ≤ y) ⟨Nat.le_refl _, h.Ny⟩ (by omega) ?_ ?_ ?_
  · intro q k hk
    have := h.apart q k hk
    have := hb q k hk
    omega
  · intro x hx _ hq
    by_cases e : x = N
    · exact e
    · have := h.chain (x - 1) (by omega) (by omega)
      exact absurd (show x ∈ K (x - 1) by rw [this]; simp; omega) (hq _)
  · intro x hx
    rw [h.deps x hx.1 hx.2, h.dep]
    omega
theorem C2.fin {S K d p D N y} (h : C2 S K d p D N y) (h128 : D + (y - N + 1) ≤ 128) {S'} (hl : Linked S S' (K p) p (K p).length N) : Dp S' (linkK K p (K p).length N) (dHang d (fun x => N ≤ x ∧ x ≤ y) p) :=
  h.dp.link hl (h.fin_lk h128 S' hl) (by have := h.pN; omega) (fun e => by subst e; exact h.leaf)
theorem C2.fin_may {S K d p D N y} (h : C2 S K d p D N y) {np nc : Nd} (hp : S.at p = some np) (hc : S.at N = some nc) : mayB S K d p N np nc = true :=
  h.dp.may_new hp hc (by have := h.pN; omega) (fun e => by subst e; exact h.leaf) (fun x => x < N) (fun x y' hx hz => by have := h.apart y' x hx; omega) (by omega) h.pN
end Go.Proofs.YtfelmdkeaacfeaaDoor.W
