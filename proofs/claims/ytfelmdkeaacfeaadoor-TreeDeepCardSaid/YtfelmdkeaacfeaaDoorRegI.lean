/- Regions that draw their order, inside the wide fence (a range over a function): the same one walk in the order of the text (XRegM), then a tail in a forced order. No program in sight. -/
import Derived.Test.YtfelmdkeaacfeaaDoorRegM
import Derived.OrdersIn
import Derived.TacticsIn
namespace Go.Proofs.YtfelmdkeaacfeaaDoor.W
open Go
set_option linter.unusedVariables false

section
variable {P : Program} {ops : Array Oper} {L : Pl} {md : Region.Mode} {m n0 : Nat} {Q : Array Bool → Nat → List Ob → Act → Prop}

theorem wide_about (o : Oper) (w : World) (a : Act) : ∀ f, o.about P w a.eval = some f → Fence.wide.fn f := fun _ _ => trivial

theorem wpAnyIn_of_any4 {t : Nat} {Q' : Exit → Act → World → Prop} (hS : ∀ k X w, L.C k X w → L.S w) (hM : ∀ k X w cs ty, L.C k X w → L.C k (bk w.heap.size cs ty :: X) (w.alloc (.cells cs.toArray ty)))
    (hQ : ∀ listed k X a w, L.C k X w → Q listed k X a → wpAnyIn Fence.wide n0 P md ops Q' t listed a w) :
    ∀ (n : Nat) (listed : Array Bool) (k : Nat) (X : List Ob) (a : Act) (w : World), L.C k X w → any4 P ops L md m Q n listed k X a → wpAnyIn Fence.wide n0 P md ops Q' (n + t) listed a w := by
  intro n
  induction n with
  | zero => intro listed k X a w hw h; rw [Nat.zero_add]; exact hQ _ _ _ _ _ hw h.2
  | succ n ih =>
    intro listed k X a w hw h
    rw [show n + 1 + t = (n + t) + 1 by omega]
    refine ⟨fun e => absurd e h.1, fun i hi => ?_⟩
    obtain ⟨_, o, ho, _⟩ := mem_ready.1 hi
    obtain ⟨hok, hn⟩ := (h.2 i hi).2 o ho
    unfold wpOpIn
    simp only [ho]
    cases hwt : Region.wanted o (yielded ops a.tmps) with
    | false =>
      simp only [Bool.false_eq_true, if_false]
      exact ⟨wide_about o w a, ih _ _ _ _ _ hw (hn k [] undef (.inl ⟨hwt, rfl, rfl, rfl⟩))⟩
    | true =>
      simp only [if_true]
      obtain ⟨o1, o2, o3⟩ := hok hwt
      unfold Oper.wpIn
      refine ⟨wide_about o w a, ?_⟩
      rw [show Fence.wide.round = none from rfl, Oper.semAt_none]
      rcases kind_three o with e | e | e
      · obtain ⟨v, hv⟩ := o1 e
        have hk := hn k [] v (.inr ⟨hwt, .inl ⟨e, hv, rfl, rfl⟩⟩)
        rcases hv w (hS _ _ _ hw) with r | ⟨r, rfl⟩
        · rw [r]; exact ih _ _ _ _ _ hw hk
        · rw [r]; exact ih _ _ _ _ _ hw hk
      · obtain ⟨f, args, r, hc⟩ := o2 e X w hw
        have hk := hn (k + 1) [] (L.val k) (.inr ⟨hwt, .inr (.inl ⟨e, rfl, rfl, rfl⟩)⟩)
        rw [r]
        refine ⟨fun h => absurd h (by decide), CallsIn.mono (callsIn_wide.2 hc) ?_⟩
        rintro e w' ⟨rfl, hw'⟩
        exact ih _ _ _ _ _ hw' hk
      · have r := o3 e w
        have hk := hn k [bk w.heap.size (L.cs i) (L.ty i)] (L.made i w.heap.size) (.inr ⟨hwt, .inr (.inr ⟨e, rfl, w.heap.size, rfl, rfl⟩)⟩)
        rw [r]
        exact ih _ _ _ _ _ (hM _ _ _ _ _ hw) hk

theorem wpAnyIn_tail {Q' : Exit → Act → World → Prop} : ∀ (l : List Oper) (k : Nat) (listed : Array Bool) (a : Act) (w : World), (∀ j, l[j]? = ops[k + j]?) → tail4 md ops l.length k listed = true → wpListIn Fence.wide n0 P ops Q' l a w → wpAnyIn Fence.wide n0 P md ops Q' l.length listed a w
  | [], k, listed, a, w, hl, hB, h => ⟨by simpa [tail4] using hB, h⟩
  | o :: l, k, listed, a, w, hl, hB, h => by
    have h0 : ops[k]? = some o := by simpa using (hl 0).symm
    simp only [List.length_cons, tail4, Bool.and_eq_true, beq_iff_eq] at hB
    obtain ⟨hr, hB'⟩ := hB
    refine ⟨fun e => (by rw [hr] at e; cases e), fun i hi => ?_⟩
    rw [hr, List.mem_singleton] at hi
    subst hi
    unfold wpOpIn
    simp only [h0]
    have hrec : ∀ a' w', wpListIn Fence.wide n0 P ops Q' l a' w' → wpAnyIn Fence.wide n0 P md ops Q' l.length (listed.setIfInBounds i true) a' w' := fun a' w' h' => wpAnyIn_tail l (i + 1) _ a' w' (fun j => by have := hl (j + 1); simpa [Nat.add_assoc, Nat.add_comm 1 j] using this) hB' h'
    unfold wpListIn at h
    split
    · rename_i hw
      rw [if_pos hw] at h
      exact Oper.wpIn_mono hrec h
    · rename_i hw
      rw [if_neg hw] at h
      exact ⟨h.1, hrec _ _ h.2⟩

/-- a region that draws its order, in the wide fence: its first operations in the order of the text, then its tail -/
theorem reg_mI {id : Nat} {Q' : Exit → Act → World → Prop} {a : Act} {w : World} {l : List Oper} (L : Pl) (m : Nat) (hm : P.follows .mixedOrders = true) (hB : all4 .any l.toArray m (l.length - m) = true)
    (hS : ∀ k X w, L.C k X w → L.S w) (hM : ∀ k X w cs ty, L.C k X w → L.C k (bk w.heap.size cs ty :: X) (w.alloc (.cells cs.toArray ty))) (hP : ∀ k X Y w, X.Perm Y → L.C k X w → L.C k Y w) (hC : L.C 0 [] w.drew)
    (h : wp4 P l.toArray L (fun k X a' => ∀ w', L.C k X w' → wpListIn Fence.wide n0 P l.toArray Q' (l.drop m) a' w') 0 0 [] (l.take m) a) : (Code.region id l.toArray true).wpIn Fence.wide n0 P Q' a w := by
  simp only [all4, Bool.and_eq_true, decide_eq_true_eq] at hB
  obtain ⟨⟨⟨hs, hlx⟩, hb⟩, hsz⟩ := hB
  have hml : m ≤ l.length := by simp at hsz; omega
  have htk : (l.take m).length = m := by simp [hml]
  refine wpIn_region_any hm ?_
  have h1 := any4_lex (P := P) (L := L) (md := .any) (m := m) (t := l.length - m) (Q := fun listed k X a' => ∀ w', L.C k X w' → wpAnyIn Fence.wide n0 P .any l.toArray Q' (l.length - m) listed a' w')
    (fun listed k X Y a hp hq w' hw' => hq w' (hP _ _ _ _ hp.symm hw')) hs hb
    (fun listed k X a ht hq w' hw' => by
      have := wpAnyIn_tail (P := P) (md := .any) (ops := l.toArray) (n0 := n0) (Q' := Q') (l.drop m) m listed a w' (fun j => by simp) (by simpa using ht) (hq w' hw')
      simpa using this)
    (l.take m) 0 (Array.replicate l.toArray.size false) 0 [] a (by rw [htk]; omega) (fun j hj => by rw [List.getElem?_take]; simp at hj ⊢; omega) (by simp) (by simp; intro j hj; simp [hj]) (by rw [htk]; exact hlx) h
  have h2 := wpAnyIn_of_any4 (n0 := n0) (Q' := Q') hS hM (fun listed k X a w' hw' hq => hq w' hw') _ _ 0 [] a _ hC h1
  have e : (l.take m).length + (l.length - m) = l.toArray.size := by rw [htk]; simp; omega
  rw [e] at h2
  exact h2
end
theorem reg_allI {P : Program} {id n0 : Nat} {Q' : Exit → Act → World → Prop} {a : Act} {w : World} {ls : List Oper} (B : Nat) (w0 : World) (l : Nat → List Ob) (val : Nat → Value) (made : Nat → Nat → Value) (cs : Nat → List Value) (ty : Nat → TypeId) (m : Nat)
    (hm : P.follows .mixedOrders = true) (hB : all4 .any ls.toArray m (ls.length - m) = true) (hC : All B w0 (l 0) w)
    (h : wp4 P ls.toArray (plA B w0 l val made cs ty) (fun k X a' => ∀ w', All B w0 (X ++ l k) w' → wpListIn Fence.wide n0 P ls.toArray Q' (ls.drop m) a' w') 0 0 [] (ls.take m) a) : (Code.region id ls.toArray true).wpIn Fence.wide n0 P Q' a w :=
  reg_mI (plA B w0 l val made cs ty) m hm hB (fun k X w h => ⟨k, X, h⟩) (fun k X w cs ty h => h.newBk cs ty) (fun k X Y w hp h => h.perm (List.Perm.append_right _ hp)) (hC.still ((RowKit.Below.refl _ _).drew)) h
end Go.Proofs.YtfelmdkeaacfeaaDoor.W
