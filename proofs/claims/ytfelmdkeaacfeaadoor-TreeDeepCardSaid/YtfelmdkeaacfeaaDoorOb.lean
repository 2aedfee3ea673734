/- Objects in memory that lie apart: what one of them does leaves the others as they are. No program in sight. -/
import Derived.Test.YtfelmdkeaacfeaaDoorMem
namespace Go.Proofs.YtfelmdkeaacfeaaDoor.W
open Go.RowKit
set_option linter.unusedVariables false

/-- an object in memory: what is said of it, and the blocks on which that rests -/
structure Ob where
  P : World → Prop
  F : Nat → Prop
  here : ∀ w, P w → ∀ k, F k → k < w.heap.size
  loc : ∀ w w', P w → (∀ k, F k → w'.heap[k]? = w.heap[k]?) → P w'

/-- all these objects are there, apart from each other, in blocks from B on; below B nothing has changed since w0 -/
structure All (B : Nat) (w0 : World) (l : List Ob) (w : World) : Prop where
  P : ∀ o ∈ l, o.P w
  apart : l.Pairwise fun a b => ∀ k, a.F k → ¬ b.F k
  base : ∀ o ∈ l, ∀ k, o.F k → B ≤ k
  below : Below B w0 w
  le : B ≤ w.heap.size

theorem All.head {B : Nat} {w0 w : World} {o : Ob} {l : List Ob} (h : All B w0 (o :: l) w) : o.P w := h.P o (by simp)
theorem All.mid {B : Nat} {w0 w : World} {o : Ob} {l1 l2 : List Ob} (h : All B w0 (l1 ++ o :: l2) w) : o.P w := h.P o (by simp)
theorem All.start (w : World) : All w.heap.size w [] w := ⟨by simp, by simp, by simp, Below.refl _ _, Nat.le_refl _⟩

theorem All.still {B : Nat} {w0 w w' : World} {l : List Ob} (h : All B w0 l w) (k : Below w.heap.size w w') : All B w0 l w' :=
  ⟨fun o ho => o.loc w w' (h.P o ho) fun i hi => k.block i (o.here w (h.P o ho) i hi), h.apart, h.base, h.below.trans (k.mono h.le), Nat.le_trans h.le k.size⟩
theorem All.drew {B : Nat} {w0 w : World} {l : List Ob} (h : All B w0 l w) : All B w0 l w.drew := h.still ((Below.refl _ _).drew)
theorem All.drewN {B : Nat} {w0 w : World} {l : List Ob} (h : All B w0 l w) (n : Nat) : All B w0 l (w.drewN n) := h.still (Below.drewN (Below.refl _ _) n)
theorem All.alloc {B : Nat} {w0 w : World} {l : List Ob} (h : All B w0 l w) (o : Obj) : All B w0 l (w.alloc o) := h.still ((Below.refl _ _).alloc (Nat.le_refl _) _)

/-- one object acts -/
theorem All.step {B : Nat} {w0 w w' : World} {o o' : Ob} (l1 : List Ob) {l2 : List Ob} (h : All B w0 (l1 ++ o :: l2) w) (hp : o'.P w') (hc : Chg o.F w w') (hk : ∀ k, o'.F k → o.F k ∨ w.heap.size ≤ k) : All B w0 (l1 ++ o' :: l2) w' := by
  have ap := h.apart
  rw [List.pairwise_append] at ap
  obtain ⟨a1, a2, a3⟩ := ap
  rw [List.pairwise_cons] at a2
  have hB : ∀ k, o.F k → B ≤ k := h.base o (by simp)
  have other : ∀ x, x ∈ l1 ∨ x ∈ l2 → x.P w' ∧ (∀ k, x.F k → ¬ o'.F k) := by
    intro x hx
    have hxP : x.P w := h.P x (by rcases hx with hx | hx <;> simp [hx])
    have hxo : ∀ k, x.F k → ¬ o.F k := by
      rcases hx with hx | hx
      · exact a3 x hx o (by simp)
      · exact fun k hk ho => a2.1 x hx k ho hk
    refine ⟨x.loc w w' hxP fun k hk => hc.block k (x.here w hxP k hk) (hxo k hk), fun k hk ho' => ?_⟩
    rcases hk' : (‹∀ k, o'.F k → o.F k ∨ w.heap.size ≤ k› k ho') with h1 | h1
    · exact hxo k hk h1
    · have := x.here w hxP k hk; omega
  refine ⟨?_, ?_, ?_, ?_, Nat.le_trans h.le hc.size⟩
  · intro x hx
    rw [List.mem_append, List.mem_cons] at hx
    rcases hx with hx | rfl | hx
    · exact (other x (.inl hx)).1
    · exact hp
    · exact (other x (.inr hx)).1
  · rw [List.pairwise_append]
    refine ⟨a1, ?_, ?_⟩
    · rw [List.pairwise_cons]
      exact ⟨fun x hx k ho' hk => (other x (.inr hx)).2 k hk ho', a2.2⟩
    · intro x hx y hy
      rw [List.mem_cons] at hy
      rcases hy with rfl | hy
      · exact (other x (.inl hx)).2
      · exact a3 x hx y (by simp [hy])
  · intro x hx k hk'
    rw [List.mem_append, List.mem_cons] at hx
    rcases hx with hx | rfl | hx
    · exact h.base x (by simp [hx]) k hk'
    · rcases hk k hk' with h1 | h1
      · exact hB k h1
      · exact Nat.le_trans h.le h1
    · exact h.base x (by simp [hx]) k hk'
  · exact h.below.trans (hc.below h.le hB)

/-- a new object -/
theorem All.new {B : Nat} {w0 w w' : World} {o : Ob} {l : List Ob} (h : All B w0 l w) (hp : o.P w') (hb : Below w.heap.size w w') (hk : ∀ k, o.F k → w.heap.size ≤ k) : All B w0 (o :: l) w' := by
  have h' := h.still hb
  refine ⟨?_, ?_, ?_, h'.below, h'.le⟩
  · intro x hx
    rcases List.mem_cons.1 hx with rfl | hx
    · exact hp
    · exact h'.P x hx
  · rw [List.pairwise_cons]
    exact ⟨fun x hx k h1 h2 => by have := hk k h1; have := x.here w (h.P x hx) k h2; omega, h.apart⟩
  · intro x hx k h1
    rcases List.mem_cons.1 hx with rfl | hx
    · exact Nat.le_trans h.le (hk k h1)
    · exact h.base x hx k h1

theorem All.swap {B : Nat} {w0 w : World} {a b : Ob} {l : List Ob} (h : All B w0 (a :: b :: l) w) : All B w0 (b :: a :: l) w := by
  refine ⟨fun o ho => h.P o (by simp at ho ⊢; rcases ho with h | h | h <;> simp [h]), ?_, fun o ho => h.base o (by simp at ho ⊢; rcases ho with h | h | h <;> simp [h]), h.below, h.le⟩
  have := h.apart
  simp only [List.pairwise_cons, List.mem_cons] at this ⊢
  obtain ⟨h1, h2, h3⟩ := this
  refine ⟨?_, fun x hx => h1 x (.inr hx), h3⟩
  rintro x (rfl | hx)
  · exact fun k ha hb => h1 b (.inl rfl) k hb ha
  · exact h2 x hx
theorem All.tail {B : Nat} {w0 w : World} {a : Ob} {l : List Ob} (h : All B w0 (a :: l) w) : All B w0 l w :=
  ⟨fun o ho => h.P o (by simp [ho]), (List.pairwise_cons.1 h.apart).2, fun o ho => h.base o (by simp [ho]), h.below, h.le⟩

theorem All.sub {B : Nat} {w0 w : World} {l l' : List Ob} (h : All B w0 l w) (hs : l'.Sublist l) : All B w0 l' w :=
  ⟨fun o ho => h.P o (hs.subset ho), h.apart.sublist hs, fun o ho => h.base o (hs.subset ho), h.below, h.le⟩

/-- what a call has made, beside what was there -/
theorem All.after {B : Nat} {w0 w w' : World} {l1 l2 : List Ob} (h : All B w0 l1 w) (k : All w.heap.size w l2 w') : All B w0 (l2 ++ l1) w' := by
  have h' := h.still k.below
  refine ⟨?_, ?_, ?_, h'.below, h'.le⟩
  · intro o ho
    rcases List.mem_append.1 ho with ho | ho
    · exact k.P o ho
    · exact h'.P o ho
  · rw [List.pairwise_append]
    refine ⟨k.apart, h.apart, fun a ha b hb i h1 h2 => ?_⟩
    have := k.base a ha i h1
    have := b.here w (h.P b hb) i h2
    omega
  · intro o ho i hi
    rcases List.mem_append.1 ho with ho | ho
    · exact Nat.le_trans h.le (k.base o ho i hi)
    · exact h.base o ho i hi

/-- a slice that owns its row -/
def sl (e : TypeId) (size : Nat) (v : Value) (n : Nat) (xs : List Value) : Ob :=
  ⟨fun w => Own w e size v n xs, fun k => v.ownBlock = some k, fun w h k hk => own_lt h hk, fun w w' h k => own_kept h k⟩
/-- a block that is known whole -/
def bk (g : Nat) (cs : List Value) (t : TypeId) : Ob :=
  ⟨fun w => Blk w g cs t, fun k => k = g, fun w h k hk => hk ▸ h.lt, fun w w' h k => h.kept (k g rfl)⟩
def hcells (xs : List Int) : List Value := xs.map (Value.int .i64)
theorem hcells_append (xs : List Int) (x : Int) : hcells (xs ++ [x]) = hcells xs ++ [.int .i64 x] := by simp [hcells]
/-- a slice of numbers -/
abbrev gl (gv : Value) (xs : List Int) : Ob := sl 3 1 gv xs.length (hcells xs)

/-- a nil slice -/
theorem All.nil {B : Nat} {w0 w : World} {l : List Ob} (h : All B w0 l w) (e : TypeId) (size : Nat) : All B w0 (sl e size (.slice none 0 0) 0 [] :: l) w :=
  h.new (World.ownsRow_nil _ _ _ _) (Below.refl _ _) (by intro k hk; simp [sl, Value.ownBlock] at hk)
/-- a new block -/
theorem All.newBk {B : Nat} {w0 w : World} {l : List Ob} (h : All B w0 l w) (cs : List Value) (t : TypeId) : All B w0 (bk w.heap.size cs t :: l) (w.alloc (.cells cs.toArray t)) :=
  h.new (Blk.new w cs t) ((Below.refl _ _).alloc (Nat.le_refl _) _) (by intro k hk; have : k = w.heap.size := hk; omega)
/-- a cell of a block written -/
theorem All.setBk {B : Nat} {w0 w : World} (l1 : List Ob) {l2 : List Ob} {g : Nat} {cs : List Value} {t : TypeId} (h : All B w0 (l1 ++ bk g cs t :: l2) w) (j : Nat) (u : Value) : All B w0 (l1 ++ bk g (cs.set j u) t :: l2) (w.setCell ⟨g, j, none⟩ u) :=
  h.step l1 (o' := bk g (cs.set j u) t) (Blk.set h.mid j u) ((Chg.refl (bk g cs t).F w).setCell ⟨g, j, none⟩ (fun _ => (rfl : g = g)) u) (fun k hk => .inl hk)
end Go.Proofs.YtfelmdkeaacfeaaDoor.W
