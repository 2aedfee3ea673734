/- ArenaAll in plain Lean: what has come is in ascending order; the objects of the law; the iterator's value. -/
import Derived.Test.YtabmmampgmcibaaAllI
import Derived.Test.YtabmmampgmcibaaClose
namespace Go.Proofs.Ytabmmampgmcibaa.W
open Go.RowKit
set_option linter.unusedVariables false

/-- the slot that came last -/
def lastOf {A : Ar Int} (pre : List (Slt A)) : Int := match pre.getLast? with | some x => (x.1 : Int) | none => -1
def Asc {A : Ar Int} (pre : List (Slt A)) : Prop := pre.Pairwise fun x y => x.1 < y.1
theorem lastOf_snoc {A : Ar Int} (pre : List (Slt A)) (x : Slt A) : lastOf (pre ++ [x]) = (x.1 : Int) := by simp [lastOf]
theorem asc_no {A : Ar Int} {pre : List (Slt A)} {x : Slt A} (h : (x.1 : Int) ≤ lastOf pre) : ¬ Asc (pre ++ [x]) := by
  intro ha
  unfold Asc at ha
  rw [List.pairwise_append] at ha
  unfold lastOf at h
  split at h
  · rename_i y hy
    have hm := List.mem_of_getLast? hy
    have := ha.2.2 y hm x (by simp)
    omega
  · omega
theorem came_asc (A : Ar Int) (k : Nat) : Asc (came A k) := by
  unfold Asc came
  rw [List.pairwise_filterMap]
  refine List.Pairwise.imp ?_ List.pairwise_lt_range
  intro i j hij x hx y hy
  have e : ∀ (i : Nat) (x : Slt A), slotAt A i = some x → x.1 = i := by
    intro i x hx
    unfold slotAt at hx
    split at hx
    · simp at hx; subst hx; rfl
    · simp at hx
  rw [e i x hx, e j y hy]
  exact hij
theorem came_count (A : Ar Int) : ∀ k, k ≤ A.slots.length → (came A k).length = (A.slots.take k).countP (·.1) := by
  intro k
  induction k with
  | zero => intro _; simp [came]
  | succ k ih =>
    intro hk
    obtain ⟨⟨u, v⟩, hu⟩ : ∃ u, A.slots[k]? = some u := ⟨_, List.getElem?_eq_getElem (by omega)⟩
    have hi := ih (by omega)
    rw [List.take_add_one, hu, List.countP_append]
    cases u with
    | true => rw [came_yes hu, List.length_append, hi]; simp
    | false => rw [came_no hu, hi]; simp
theorem came_live {A : Ar Int} (h : Good A) : ((came A A.slots.length).length : Int) = A.live := by
  rw [came_count A _ (Nat.le_refl _), List.take_length, h.live]
theorem slt_get {A : Ar Int} (x : Slt A) (hl : A.slots.length ≤ 1000) : idx A.b A.s (hdl A.b A.s (x.1 : Nat)) = (x.1 : Int) ∧ A.get (hdl A.b A.s (x.1 : Nat)) = some (valOf A x.1) ∧ A.has (hdl A.b A.s (x.1 : Nat)) = true := by
  obtain ⟨i, v, hv⟩ := x
  have hi : i < A.slots.length := (List.getElem?_eq_some_iff.1 hv).1
  have h1 : idx A.b A.s (hdl A.b A.s (i : Nat)) = (i : Int) := idx_hdl _ _ _ (by omega) (by omega)
  have h2 := look_of h1 hv
  refine ⟨h1, ?_, has_some h2⟩
  unfold Ar.get valOf
  rw [h2]
  simp only
  rw [hv]
  rfl

theorem came_mono (A : Ar Int) {k m : Nat} (h : k ≤ m) : (came A k).length ≤ (came A m).length := by
  unfold came
  refine List.Sublist.length_le (List.Sublist.filterMap _ ?_)
  exact List.range_sublist.2 h
/-- objects that a step beside them leaves as they are -/
theorem All.grown {B : Nat} {w0 w w' : World} {l : List Ob} {row : Option Nat} (h : All B w0 l w) (hg : w.grownBy w' row) (hr : ∀ r, row = some r → B ≤ r ∧ ∀ o ∈ l, ¬ o.F r) : All B w0 l w' :=
  ⟨fun o ho => o.loc w w' (h.P o ho) fun k hk => hg.block k (o.here w (h.P o ho) k hk) (fun e => (hr k e.symm).2 o ho hk), h.apart, h.base,
    h.below.grown hg h.le (fun k e => (hr k e).1), Nat.le_trans h.le hg.size⟩

theorem all_any (g : Nat) (w : World) : Calls Try.prog 41 #[.pointer (some ⟨g, 0, none⟩)] w fun e w' => e = .returned (.func (.func 48) #[] #[.pointer (some ⟨w.heap.size, 0, none⟩)]) ∧ w' = w.alloc (.cells #[.pointer (some ⟨g, 0, none⟩)] 82) := by
  go_enter Try.func41, Try.ntmps41
  go_wp2
  go_ret
  exact ⟨rfl, rfl⟩
/-- blocks below Z are kept, but for those that F names -/
def KpF (Z : Nat) (F : Nat → Prop) (W W' : World) : Prop := W.heap.size ≤ W'.heap.size ∧ ∀ k, k < Z → ¬ F k → W'.heap[k]? = W.heap[k]?
theorem kpF_t {Z : Nat} {F : Nat → Prop} {A B C : World} (h : KpF Z F A B) (k : KpF Z F B C) : KpF Z F A C := ⟨Nat.le_trans h.1 k.1, fun i hi hf => (k.2 i hi hf).trans (h.2 i hi hf)⟩
theorem kpF_b {F : Nat → Prop} {w : World} (W : World) (l : Nat) (o o' : Obj) (hl : w.heap.size ≤ l) (h : W.heap[l]? = some o) (_ : o.isCells = false) (_ : o.isWalk = false) : KpF w.heap.size F W (W.putObj l o') :=
  ⟨by simp, fun k hk _ => World.putObj_heap_other (by omega)⟩
theorem all_stops {A : Ar Int} {g Bs n : Nat} {sv fv : Value} {w : World} {F : Nat → Prop} (hl : A.slots.length ≤ 1000) (hn : 1 ≤ n) (hBs : Blk w Bs [.pointer (some ⟨g, 0, none⟩)] 82) (hA : AtI w g A sv fv)
    (hF1 : ∀ k, Ft g sv fv k → ¬ F k) (hF2 : ¬ F Bs) :
    SeqStopsK Fence.wide n Try.prog 48 #[.pointer (some ⟨Bs, 0, none⟩)] (encH A) (KpF w.heap.size F) (fun ys => ys = came A A.slots.length) (fun pre => ∃ k, k ≤ A.slots.length ∧ pre = came A k) A.slots.length w := by
  intro l J Jx W hW hJ hJx hY h0
  have hlt : ∀ k, Ft g sv fv k → k < w.heap.size := fun k hk => (arI g A sv fv).here w hA k hk
  refine all1_in hl hJ hn (fun X X' hk hx => (arI g A sv fv).loc X X' hx fun k hf => hk.2 k (hlt k hf) (hF1 k hf)) (fun X X' hk hx => hx.kept (hk.2 Bs hBs.lt hF2)) hY (hBs.below hW) (hA.below hW) h0
theorem keeps_below {W W' : World} (h : Below W.heap.size W W') : KeepsOthers W W' := ⟨h.size, fun k o hk _ => (h.block k (Array.getElem?_eq_some_iff.1 hk).1).trans hk⟩
theorem kpF_below {Z : Nat} {F : Nat → Prop} {W W' : World} (hZ : Z ≤ W.heap.size) (h : Below W.heap.size W W') : KpF Z F W W' := ⟨h.size, fun k hk _ => h.block k (by omega)⟩
theorem kpF_set {Z : Nat} {F : Nat → Prop} {W : World} (p : Addr) (v : Value) (hp : F p.block) : KpF Z F W (W.setCell p v) := ⟨by simp [World.setCell], fun k _ hf => Below.heap_setCell _ _ _ _ (fun e => hf (e ▸ hp))⟩

/-- the kit's law of a range over a function, the frame behind the assignment told by what is put into it -/
theorem rangeFunc_put {α : Type} {P : Program} {n : Nat} {g : Operand} {ps : Array Tmp} {assign body : Code} {Q : Exit → Act → World → Prop} {a : Act} {w : World} (upd : α → Act → Act)
    (h1 : 1 ≤ n) {gf : Nat} {lb : Array Value} (hg : a.eval g = .func (.func gf) #[] lb) (eg : ∀ args w, (callFunc gf args).run P w = .ok (.enter gf args) w)
    {encs : α → Array Value} {Kp : World → World → Prop} {S Sp : List α → Prop} {N : Nat} (hseq : SeqStopsK Fence.wide (n - 1) P gf lb encs Kp S Sp N w)
    (hKt : ∀ {A B C : World}, Kp A B → Kp B C → Kp A C) (hKb : ∀ (W : World) (l : Nat) (o o' : Obj), w.heap.size ≤ l → W.heap[l]? = some o → o.isCells = false → o.isWalk = false → Kp W (W.putObj l o')) (hps : ∀ x, (encs x).size = ps.size)
    (I : List α → World → Prop) (Ix : Code → List α → World → Prop) (hI : OwnFrom w.heap.size I) (hIx : ∀ c, OwnFrom w.heap.size (Ix c)) (h0 : I [] w)
    (hassign : ∀ (l : Nat) (x : α) (W : World) (K : Act → World → Prop), K (upd x a) W →
      assign.wpIn (Fence.wide.inRound l) (n - 1 - 1) P (Exit.then K (fun _ _ _ => False)) { tmps := (ps.zip (encs x)).foldl (fun t (p, v) => t.setIfInBounds p v) a.tmps, defers := [] } W)
    (hbody : ∀ (l : Nat) (pre : List α) (x : α) (W : World), I pre W → pre.length < N → body.wpIn (Fence.wide.inRound l) (n - 1 - 1) P (ownPostK Kp I Ix (pre ++ [x]) W) (upd x a) W)
    (hdone : ∀ (D : Nat) (xs : List α) (W : World), w.heap.size ≤ D → S xs → I xs W → W.heap[D]? = some (.deferred (some [])) → Q .normal { a with defers := { target := .collected D, args := #[] } :: a.defers } W)
    (hstop : ∀ (D : Nat) (c : Code) (pre : List α) (W : World), w.heap.size ≤ D → Sp pre → Ix c pre W → W.heap[D]? = some (.deferred (some [])) → c.wpIn Fence.wide n P Q { a with defers := { target := .collected D, args := #[] } :: a.defers } W) :
    (Code.rangeFunc g ps assign body).wpIn Fence.wide n P Q a w :=
  wpIn_rangeFunc_ownF rfl h1 hg trivial eg hseq hKt hKb (Below.refl _ _) hps I Ix hI hIx h0 (fun x => upd x a) hassign hbody hdone hstop
theorem two_marks {n : Nat} {P : Program} {fn : Func} {tmps : Array Value} {R : Ending → World → Prop} {D1 D2 : Nat} {W : World} (hne : D1 ≠ D2) (h2 : W.heap[D2]? = some (.deferred (some []))) (h1 : W.heap[D1]? = some (.deferred (some [])))
    (hL : LeavesIn Fence.wide n P fn tmps R [] .returning ((W.putObj D2 (.deferred none)).putObj D1 (.deferred none))) :
    bodyPostM Fence.wide n P fn R .ret { tmps := tmps, defers := [{ target := .collected D2, args := #[] }, { target := .collected D1, args := #[] }] } W :=
  ⟨by simp, .inl ⟨D2, _, rfl, run_takeDeferred h2, by simp, .inl ⟨D1, _, rfl, run_takeDeferred ((World.putObj_heap_other (by omega)).trans h1), hL⟩⟩⟩
theorem below_put {B D : Nat} {w W : World} (o : Obj) (h : Below B w W) (hB : B ≤ D) (hD : D < W.heap.size) : Below B w (W.putObj D o) :=
  h.grown (grownBy_putObj' W D o) (by omega) (fun k e => by cases e; exact hB)
/-- two values put into a frame, and the loop's variables -/
def put4 (i j i' j' : Nat) (x y : Value) (a : Act) : Act := { tmps := (((a.tmps.setIfInBounds i x).setIfInBounds j y).setIfInBounds i' x).setIfInBounds j' y, defers := [] }
end Go.Proofs.Ytabmmampgmcibaa.W
