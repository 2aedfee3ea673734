/- Objects in memory that lie apart: what one of them does leaves the others as they are. -/
import Derived.Test.YtabmmampgmcibaaArenaK
namespace Go.Proofs.Ytabmmampgmcibaa.W
open Go.RowKit
set_option linter.unusedVariables false

/-- an object in memory: what is said of it, and the blocks on which that rests -/
structure Ob where
  P : World → Prop
  F : Nat → Prop
  here : ∀ w, P w → ∀ k, F k → k < w.heap.size
  loc : ∀ w w', P w → (∀ k, F k → w'.heap[k]? = w.heap[k]?) → P w'

/-- all these objects are there, apart from each other, in blocks from B on; below B nothing has changed since w0 -/
structure All (B : Nat) (w0 : World) (l : List Ob) (w : World) : Prop where
  P : ∀ o ∈ l, o.P w
  apart : l.Pairwise fun a b => ∀ k, a.F k → ¬ b.F k
  base : ∀ o ∈ l, ∀ k, o.F k → B ≤ k
  below : Below B w0 w
  le : B ≤ w.heap.size

theorem All.head {B : Nat} {w0 w : World} {o : Ob} {l : List Ob} (h : All B w0 (o :: l) w) : o.P w := h.P o (by simp)
theorem All.mid {B : Nat} {w0 w : World} {o : Ob} {l1 l2 : List Ob} (h : All B w0 (l1 ++ o :: l2) w) : o.P w := h.P o (by simp)
theorem All.start (w : World) : All w.heap.size w [] w := ⟨by simp, by simp, by simp, Below.refl _ _, Nat.le_refl _⟩

theorem All.still {B : Nat} {w0 w w' : World} {l : List Ob} (h : All B w0 l w) (k : Below w.heap.size w w') : All B w0 l w' :=
  ⟨fun o ho => o.loc w w' (h.P o ho) fun i hi => k.block i (o.here w (h.P o ho) i hi), h.apart, h.base, h.below.trans (k.mono h.le), Nat.le_trans h.le k.size⟩
theorem All.drew {B : Nat} {w0 w : World} {l : List Ob} (h : All B w0 l w) : All B w0 l w.drew := h.still ((Below.refl _ _).drew)
theorem All.drewN {B : Nat} {w0 w : World} {l : List Ob} (h : All B w0 l w) (n : Nat) : All B w0 l (w.drewN n) := h.still (Below.drewN (Below.refl _ _) n)
theorem All.alloc {B : Nat} {w0 w : World} {l : List Ob} (h : All B w0 l w) (o : Obj) : All B w0 l (w.alloc o) := h.still ((Below.refl _ _).alloc (Nat.le_refl _) _)

/-- one object acts -/
theorem All.step {B : Nat} {w0 w w' : World} {o o' : Ob} (l1 : List Ob) {l2 : List Ob} (h : All B w0 (l1 ++ o :: l2) w) (hp : o'.P w') (hc : Chg o.F w w') (hk : ∀ k, o'.F k → o.F k ∨ w.heap.size ≤ k) : All B w0 (l1 ++ o' :: l2) w' := by
  have ap := h.apart
  rw [List.pairwise_append] at ap
  obtain ⟨a1, a2, a3⟩ := ap
  rw [List.pairwise_cons] at a2
  have hB : ∀ k, o.F k → B ≤ k := h.base o (by simp)
  have other : ∀ x, x ∈ l1 ∨ x ∈ l2 → x.P w' ∧ (∀ k, x.F k → ¬ o'.F k) := by
    intro x hx
    have hxP : x.P w := h.P x (by rcases hx with hx | hx <;> simp [hx])
    have hxo : ∀ k, x.F k → ¬ o.F k := by
      rcases hx with hx | hx
      · exact a3 x hx o (by simp)
      · exact fun k hk ho => a2.1 x hx k ho hk
    refine ⟨x.loc w w' hxP fun k hk => hc.block k (x.here w hxP k hk) (hxo k hk), fun k hk ho' => ?_⟩
    rcases hk' : (‹∀ k, o'.F k → o.F k ∨ w.heap.size ≤ k› k ho') with h1 | h1
    · exact hxo k hk h1
    · have := x.here w hxP k hk; omega
  refine ⟨?_, ?_, ?_, ?_, Nat.le_trans h.le hc.size⟩
  · intro x hx
    rw [List.mem_append, List.mem_cons] at hx
    rcases hx with hx | rfl | hx
    · exact (other x (.inl hx)).1
    · exact hp
    · exact (other x (.inr hx)).1
  · rw [List.pairwise_append]
    refine ⟨a1, ?_, ?_⟩
    · rw [List.pairwise_cons]
      exact ⟨fun x hx k ho' hk => (other x (.inr hx)).2 k hk ho', a2.2⟩
    · intro x hx y hy
      rw [List.mem_cons] at hy
      rcases hy with rfl | hy
      · exact (other x (.inl hx)).2
      · exact a3 x hx y (by simp [hy])
  · intro x hx k hk'
    rw [List.mem_append, List.mem_cons] at hx
    rcases hx with hx | rfl | hx
    · exact h.base x (by simp [hx]) k hk'
    · rcases hk k hk' with h1 | h1
      · exact hB k h1
      · exact Nat.le_trans h.le h1
    · exact h.base x (by simp [hx]) k hk'
  · exact h.below.trans (hc.below h.le hB)

/-- a new object -/
theorem All.new {B : Nat} {w0 w w' : World} {o : Ob} {l : List Ob} (h : All B w0 l w) (hp : o.P w') (hb : Below w.heap.size w w') (hk : ∀ k, o.F k → w.heap.size ≤ k) : All B w0 (o :: l) w' := by
  have h' := h.still hb
  refine ⟨?_, ?_, ?_, h'.below, h'.le⟩
  · intro x hx
    rcases List.mem_cons.1 hx with rfl | hx
    · exact hp
    · exact h'.P x hx
  · rw [List.pairwise_cons]
    exact ⟨fun x hx k h1 h2 => by have := hk k h1; have := x.here w (h.P x hx) k h2; omega, h.apart⟩
  · intro x hx k h1
    rcases List.mem_cons.1 hx with rfl | hx
    · exact Nat.le_trans h.le (hk k h1)
    · exact h.base x hx k h1

theorem All.swap {B : Nat} {w0 w : World} {a b : Ob} {l : List Ob} (h : All B w0 (a :: b :: l) w) : All B w0 (b :: a :: l) w := by
  refine ⟨fun o ho => h.P o (by simp at ho ⊢; rcases ho with h | h | h <;> simp [h]), ?_, fun o ho => h.base o (by simp at ho ⊢; rcases ho with h | h | h <;> simp [h]), h.below, h.le⟩
  have := h.apart
  simp only [List.pairwise_cons, List.mem_cons] at this ⊢
  obtain ⟨h1, h2, h3⟩ := this
  refine ⟨?_, fun x hx => h1 x (.inr hx), h3⟩
  rintro x (rfl | hx)
  · exact fun k ha hb => h1 b (.inl rfl) k hb ha
  · exact h2 x hx
theorem All.tail {B : Nat} {w0 w : World} {a : Ob} {l : List Ob} (h : All B w0 (a :: l) w) : All B w0 l w :=
  ⟨fun o ho => h.P o (by simp [ho]), (List.pairwise_cons.1 h.apart).2, fun o ho => h.base o (by simp [ho]), h.below, h.le⟩

theorem All.sub {B : Nat} {w0 w : World} {l l' : List Ob} (h : All B w0 l w) (hs : l'.Sublist l) : All B w0 l' w :=
  ⟨fun o ho => h.P o (hs.subset ho), h.apart.sublist hs, fun o ho => h.base o (hs.subset ho), h.below, h.le⟩

/-- what a call has made, beside what was there -/
theorem All.after {B : Nat} {w0 w w' : World} {l1 l2 : List Ob} (h : All B w0 l1 w) (k : All w.heap.size w l2 w') : All B w0 (l2 ++ l1) w' := by
  have h' := h.still k.below
  refine ⟨?_, ?_, ?_, h'.below, h'.le⟩
  · intro o ho
    rcases List.mem_append.1 ho with ho | ho
    · exact k.P o ho
    · exact h'.P o ho
  · rw [List.pairwise_append]
    refine ⟨k.apart, h.apart, fun a ha b hb i h1 h2 => ?_⟩
    have := k.base a ha i h1
    have := b.here w (h.P b hb) i h2
    omega
  · intro o ho i hi
    rcases List.mem_append.1 ho with ho | ho
    · exact Nat.le_trans h.le (k.base o ho i hi)
    · exact h.base o ho i hi

/-- a slice that owns its row -/
def sl (e : TypeId) (size : Nat) (v : Value) (n : Nat) (xs : List Value) : Ob :=
  ⟨fun w => Own w e size v n xs, fun k => v.ownBlock = some k, fun w h k hk => own_lt h hk, fun w w' h k => own_kept h k⟩
/-- a block that is known whole -/
def bk (g : Nat) (cs : List Value) (t : TypeId) : Ob :=
  ⟨fun w => Blk w g cs t, fun k => k = g, fun w h k hk => hk ▸ h.lt, fun w w' h k => h.kept (k g rfl)⟩
/-- an arena of numbers -/
def arI (g : Nat) (A : Ar Int) (sv fv : Value) : Ob :=
  ⟨fun w => AtI w g A sv fv, Ft g sv fv, fun w h k hk => h.lt k hk, fun w w' h k => ⟨h.blk.kept (k g (.inl rfl)), own_kept h.slots (fun i hi => k i (.inr (.inl hi))), own_kept h.free (fun i hi => k i (.inr (.inr hi))), h.d1, h.d2, h.d3⟩⟩

def hcells (xs : List Int) : List Value := xs.map (Value.int .i64)
theorem hcells_append (xs : List Int) (x : Int) : hcells (xs ++ [x]) = hcells xs ++ [.int .i64 x] := by simp [hcells]
/-- a slice of numbers -/
abbrev gl (gv : Value) (xs : List Int) : Ob := sl 3 1 gv xs.length (hcells xs)

/-- a nil slice -/
theorem All.nil {B : Nat} {w0 w : World} {l : List Ob} (h : All B w0 l w) (e : TypeId) (size : Nat) : All B w0 (sl e size (.slice none 0 0) 0 [] :: l) w :=
  h.new (World.ownsRow_nil _ _ _ _) (Below.refl _ _) (by intro k hk; simp [sl, Value.ownBlock] at hk)
/-- a new block -/
theorem All.newBk {B : Nat} {w0 w : World} {l : List Ob} (h : All B w0 l w) (cs : List Value) (t : TypeId) : All B w0 (bk w.heap.size cs t :: l) (w.alloc (.cells cs.toArray t)) :=
  h.new (Blk.new w cs t) ((Below.refl _ _).alloc (Nat.le_refl _) _) (by intro k hk; have : k = w.heap.size := hk; omega)
/-- a cell of a block written -/
theorem All.setBk {B : Nat} {w0 w : World} (l1 : List Ob) {l2 : List Ob} {g : Nat} {cs : List Value} {t : TypeId} (h : All B w0 (l1 ++ bk g cs t :: l2) w) (j : Nat) (u : Value) : All B w0 (l1 ++ bk g (cs.set j u) t :: l2) (w.setCell ⟨g, j, none⟩ u) :=
  h.step l1 (o' := bk g (cs.set j u) t) (Blk.set h.mid j u) ((Chg.refl (bk g cs t).F w).setCell ⟨g, j, none⟩ (fun _ => (rfl : g = g)) u) (fun k hk => .inl hk)
/-- a new arena -/
theorem All.newAr {B : Nat} {w0 w : World} {l : List Ob} (h : All B w0 l w) (b s : Int) :
    All B w0 (arI w.heap.size (newAr b s) (.slice none 0 0) (.slice none 0 0) :: l) (w.alloc (.cells #[.int .i64 b, .int .i64 s, .slice none 0 0, .slice none 0 0, .int .i64 0] 32)) :=
  h.new (newAt w b s) ((Below.refl _ _).alloc (Nat.le_refl _) _) (by
    rintro k (rfl | hk | hk)
    · exact Nat.le_refl _
    · simp [Value.ownBlock] at hk
    · simp [Value.ownBlock] at hk)

/-- what one arena's operation leaves of all -/
def DidAll (e0 : Value) (B : Nat) (w0 : World) (l1 : List Ob) (g : Nat) (A' : Ar Int) (l2 : List Ob) (e : Ending) (w' : World) : Prop :=
  ∃ sv' fv', e = .returned e0 ∧ All B w0 (l1 ++ arI g A' sv' fv' :: l2) w'
theorem did_all {e0 : Value} {B : Nat} {w0 w : World} {l1 l2 : List Ob} {g : Nat} {A A' : Ar Int} {sv fv : Value} (h : All B w0 (l1 ++ arI g A sv fv :: l2) w) {e : Ending} {w' : World} (hd : Did e0 g sv fv A' w e w') : DidAll e0 B w0 l1 g A' l2 e w' := by
  obtain ⟨sv', fv', he, ha, hc, hk⟩ := hd
  exact ⟨sv', fv', he, h.step l1 (o' := arI g A' sv' fv') ha hc hk⟩

theorem add_all {B : Nat} {w0 w : World} (l1 : List Ob) {l2 : List Ob} {g : Nat} {A : Ar Int} {sv fv : Value} (h : All B w0 (l1 ++ arI g A sv fv :: l2) w) (v : Int) (hF : Fit A 2000000000) :
    Calls Try.prog 19 #[.pointer (some ⟨g, 0, none⟩), .int .i64 v] w (DidAll (.int .i64 (hdl A.b A.s A.nextSlot)) B w0 l1 g (A.add v) l2) :=
  (add_any h.mid v hF).mono fun _ _ hd => did_all h hd
theorem drop_all {B : Nat} {w0 w : World} (l1 : List Ob) {l2 : List Ob} {g : Nat} {A : Ar Int} {sv fv : Value} (h : All B w0 (l1 ++ arI g A sv fv :: l2) w) (hd : Int) (h1 : -9223372036854775808 ≤ hd) (h2 : hd ≤ 9223372036854775807) (hF : Fit A 2000000000) :
    Calls Try.prog 20 #[.pointer (some ⟨g, 0, none⟩), .int .i64 hd] w (DidAll (.bool (A.has hd)) B w0 l1 g (A.drop 0 hd) l2) :=
  (drop_any h.mid hd h1 h2 hF).mono fun _ _ hd => did_all h hd
theorem set_all {B : Nat} {w0 w : World} (l1 : List Ob) {l2 : List Ob} {g : Nat} {A : Ar Int} {sv fv : Value} (h : All B w0 (l1 ++ arI g A sv fv :: l2) w) (hd v : Int) (h1 : -9223372036854775808 ≤ hd) (h2 : hd ≤ 9223372036854775807) (hF : Fit A 2000000000) :
    Calls Try.prog 37 #[.pointer (some ⟨g, 0, none⟩), .int .i64 hd, .int .i64 v] w (DidAll (.bool (A.has hd)) B w0 l1 g (A.setAt hd v) l2) :=
  (set_any h.mid hd v h1 h2 hF).mono fun _ _ hd => did_all h hd
theorem get_all {B : Nat} {w0 w : World} (l1 : List Ob) {l2 : List Ob} {g : Nat} {A : Ar Int} {sv fv : Value} (h : All B w0 (l1 ++ arI g A sv fv :: l2) w) (hd : Int) (h1 : -9223372036854775808 ≤ hd) (h2 : hd ≤ 9223372036854775807) (hF : Fit A 2000000000) :
    Calls Try.prog 28 #[.pointer (some ⟨g, 0, none⟩), .int .i64 hd] w fun e w' => e = .returned (.tuple #[.int .i64 ((A.get hd).getD 0), .bool (A.has hd)]) ∧ All B w0 (l1 ++ arI g A sv fv :: l2) w' :=
  (get_any h.mid hd h1 h2 hF.len).mono fun _ _ ⟨he, hb⟩ => ⟨he, h.still hb⟩

/-- an append of one number to a slice of the call's own -/
theorem gl_append {B : Nat} {w0 w w1 : World} (l1 : List Ob) {l2 : List Ob} {gv : Value} {xs : List Int} {x : Int} {g cap : Nat} (h : All B w0 (l1 ++ gl gv xs :: l2) w)
    (hown : Own w1 3 1 (.slice (some ⟨g, 0, none⟩) (xs.length + 1) cap) (xs.length + 1) (hcells xs ++ [.int .i64 x])) (hg : w.grownBy w1 gv.ownBlock) (hat : gv.ownBlock = some g ∨ g = w.heap.size) :
    All B w0 (l1 ++ gl (.slice (some ⟨g, 0, none⟩) (xs.length + 1) cap) (xs ++ [x]) :: l2) w1 := by
  refine h.step l1 (o' := gl (.slice (some ⟨g, 0, none⟩) (xs.length + 1) cap) (xs ++ [x])) ?_ ?_ ?_
  · show Own w1 _ _ _ _ _
    rw [hcells_append, List.length_append]
    exact hown
  · exact (Chg.refl _ _).grown hg (fun k hk _ => hk)
  · intro k hk
    have : g = k := by simpa [gl, sl, Value.ownBlock] using hk
    subst this
    rcases hat with h | h
    · exact .inl h
    · exact .inr (by omega)
/-- the append itself, in a walk -/
theorem wpList_append_gl {B : Nat} {w0 w : World} (l1 : List Ob) {l2 : List Ob} {gv : Value} {xs : List Int} (h : All B w0 (l1 ++ gl gv xs :: l2) w) (x : Int)
    {ops : Array Oper} {rest : List Oper} {o : Oper} {a : Act} {Q : Exit → Act → World → Prop} (hgd : o.guard = none) (s x' : Operand)
    (ho : o.op = .call { callee := .builtin .append, args := #[s, x'], argTypes := #[30, 30] }) (hs : a.eval s = gv) (hx : a.eval x' = .slice (some ⟨w.heap.size, 0, none⟩) 1 1) (hlen : xs.length ≤ 2000000000)
    (hc : ∀ gv' w', All B w0 (l1 ++ gl gv' (xs ++ [x]) :: l2) w' → wpList Try.prog ops Q rest (a.put o.dst gv') w') : wpList Try.prog ops Q (o :: rest) a (w.alloc (.cells #[.int .i64 x] 3)) := by
  obtain ⟨i0, hi, hz0, hz1, hz2⟩ := info_parts info3
  have hown : Own w 3 1 gv xs.length (hcells xs) := h.mid
  refine wpList_append_lies _ hgd _ _ 30 ho 0 3 i0 (.int .i64 0) 1 8 Try.underlying30 hi hz0 hz1 hz2 rfl (by decide) gv xs.length (hcells xs) hs (World.ownsRow.alloc hown _) ⟨w.heap.size, 0, none⟩ 1 1 [.int .i64 x] hx rfl
    (World.news_of_block (cs := #[.int .i64 x]) (heap_alloc_new w _)) (by simp [Value.oneCell']) (by decide) (by unfold maxLen; omega) (by omega) (Nat.zero_le _) (w.heap.size + 1) (by simp) ?_
  intro g cap w' ho' hg hat _
  exact hc _ _ (gl_append l1 (h.alloc _) ho' hg (by simpa using hat))
/-- an append of several numbers -/
theorem wpList_append_glN {B : Nat} {w0 w : World} (l1 : List Ob) {l2 : List Ob} {gv : Value} {xs : List Int} (h : All B w0 (l1 ++ gl gv xs :: l2) w) (ys : List Int) (hy : 0 < ys.length)
    {ops : Array Oper} {rest : List Oper} {o : Oper} {a : Act} {Q : Exit → Act → World → Prop} (hgd : o.guard = none) (s x' : Operand) (c : Nat)
    (ho : o.op = .call { callee := .builtin .append, args := #[s, x'], argTypes := #[30, 30] }) (hs : a.eval s = gv) (hx : a.eval x' = .slice (some ⟨w.heap.size, 0, none⟩) ys.length c) (hlen : xs.length + ys.length ≤ 2000000000)
    (hc : ∀ gv' w', All B w0 (l1 ++ gl gv' (xs ++ ys) :: l2) w' → wpList Try.prog ops Q rest (a.put o.dst gv') w') : wpList Try.prog ops Q (o :: rest) a (w.alloc (.cells (hcells ys).toArray 3)) := by
  obtain ⟨i0, hi, hz0, hz1, hz2⟩ := info_parts info3
  have hown : Own w 3 1 gv xs.length (hcells xs) := h.mid
  refine wpList_append_lies _ hgd _ _ 30 ho 0 3 i0 (.int .i64 0) 1 8 Try.underlying30 hi hz0 hz1 hz2 rfl (by decide) gv xs.length (hcells xs) hs (World.ownsRow.alloc hown _) ⟨w.heap.size, 0, none⟩ ys.length c (hcells ys) hx (by simp [hcells])
    (World.news_of_block (cs := (hcells ys).toArray) (heap_alloc_new w _)) (by simp [hcells, Value.oneCell']) hy (by unfold maxLen; omega) (by omega) (Nat.zero_le _) (w.heap.size + 1) (by simp) ?_
  intro g cap w' ho' hg hat _
  refine hc _ _ ((h.alloc _).step l1 (o' := gl (.slice (some ⟨g, 0, none⟩) (xs.length + ys.length) cap) (xs ++ ys)) ?_ ((Chg.refl _ _).grown hg (fun k hk _ => hk)) ?_)
  · show Own w' _ _ _ _ _
    rw [show hcells (xs ++ ys) = hcells xs ++ hcells ys by simp [hcells], List.length_append]
    exact ho'
  · intro k hk
    have : g = k := by simpa [gl, sl, Value.ownBlock] using hk
    subst this
    rcases hat with h | h
    · exact .inl h
    · exact .inr (by simp; omega)
end Go.Proofs.Ytabmmampgmcibaa.W
