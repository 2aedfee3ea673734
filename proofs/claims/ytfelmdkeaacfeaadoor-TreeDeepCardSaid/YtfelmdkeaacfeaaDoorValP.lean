/- Valid's loop: what has been counted; plain. The iterator's value. -/
import Derived.Test.YtfelmdkeaacfeaaDoorIter
namespace Go.Proofs.YtfelmdkeaacfeaaDoor.W
open Go.RowKit
set_option linter.unusedVariables false
set_option linter.unusedSimpArgs false
attribute [local go_sem] Oper.semAt_some

theorem came_val (S : Tr) : ∀ k, k ≤ S.slots.length → (came S k).map (·.1) = (List.range k).filter fun i => (S.at i).isSome
  | 0, _ => rfl
  | k + 1, hk => by
    obtain ⟨u, hu⟩ : ∃ u, S.slots[k]? = some u := ⟨_, List.getElem?_eq_getElem (by omega)⟩
    have ih := came_val S k (by omega)
    rw [List.range_succ, List.filter_append, ← ih]
    cases u with
    | none =>
      have : (S.at k).isSome = false := by unfold Tr.at; rw [hu]; rfl
      rw [came_no hu]
      simp [this]
    | some n =>
      have : (S.at k).isSome = true := by rw [at_of hu]; rfl
      rw [came_yes hu]
      simp [this]
/-- what a node adds to the count -/
def addOf (S : Tr) (K : Nat → List Nat) (i : Nat) : Nat := if (nodeOf S i).parent = 0 then szK K 127 i else 0
def cnt (S : Tr) (K : Nat → List Nat) (pre : List (Slt S)) : Nat := (pre.map fun x => addOf S K x.1).sum
theorem cnt_snoc (S : Tr) (K : Nat → List Nat) (pre : List (Slt S)) (x : Slt S) : cnt S K (pre ++ [x]) = cnt S K pre + addOf S K x.1 := by unfold cnt; simp
theorem sum_ite (f : Nat → Nat) (p : Nat → Bool) : ∀ l : List Nat, (l.map fun i => if p i = true then f i else 0).sum = ((l.filter p).map f).sum
  | [] => rfl
  | x :: l => by
    rw [List.map_cons, List.sum_cons, sum_ite f p l, List.filter_cons]
    split <;> simp
theorem node_at {S : Tr} {i : Nat} {n : Nd} (h : S.at i = some n) : nodeOf S i = n := by unfold nodeOf; rw [h]; rfl
theorem top_iff {S K d} (h : Lk S K d) {i : Nat} {n : Nd} (hi : S.at i = some n) : n.parent = 0 ↔ ∀ p, i ∉ K p := by
  constructor
  · intro h0 p hp
    obtain ⟨j, hj⟩ := List.mem_iff_getElem?.1 hp
    obtain ⟨np, hnp⟩ := Option.isSome_iff_exists.1 (h.kin p i hp).1
    have h1 := (h.kid p j i n hj hi).1
    have h2 := (hd_ok h hnp).2
    omega
  · intro hp; exact (h.top i n hi hp).1
theorem cnt_all {S K d} (h : Lk S K d) : cnt S K (came S S.slots.length) = S.live := by
  have e : cnt S K (came S S.slots.length) = (((came S S.slots.length).map (·.1)).map (addOf S K)).sum := by unfold cnt; rw [List.map_map]; rfl
  rw [e, came_val S _ (Nat.le_refl _)]
  have h2 := sum_ite (szK K 127) (fun i => decide ((nodeOf S i).parent = 0)) ((List.range S.slots.length).filter fun i => (S.at i).isSome)
  have e3 : ((List.range S.slots.length).filter fun i => (S.at i).isSome).map (addOf S K) = ((List.range S.slots.length).filter fun i => (S.at i).isSome).map fun i => if decide ((nodeOf S i).parent = 0) = true then szK K 127 i else 0 := by
    refine List.map_congr_left (fun i _ => ?_)
    unfold addOf
    by_cases e : (nodeOf S i).parent = 0
    · rw [if_pos e, if_pos (by simpa using e)]
    · rw [if_neg e, if_neg (by simpa using e)]
  rw [e3, h2]
  refine count_all h h.pos _ (List.Pairwise.filter _ (List.Pairwise.filter _ List.nodup_range)) (fun i => ?_)
  rw [List.mem_filter, List.mem_filter, List.mem_range, decide_eq_true_iff]
  constructor
  · rintro ⟨⟨_, a⟩, b⟩
    obtain ⟨n, hn⟩ := Option.isSome_iff_exists.1 a
    rw [node_at hn] at b
    exact ⟨a, (top_iff h hn).1 b⟩
  · rintro ⟨a, b⟩
    obtain ⟨n, hn⟩ := Option.isSome_iff_exists.1 a
    exact ⟨⟨at_lt hn, a⟩, by rw [node_at hn]; exact (top_iff h hn).2 b⟩
theorem addOf_le {S K d} (h : Lk S K d) {i : Nat} {n : Nd} (hi : S.at i = some n) : addOf S K i ≤ 1000000 := by
  unfold addOf
  rw [node_at hi]
  split
  · rename_i h0
    have h1 := h.one i (by rw [hi]; rfl) ((top_iff h hi).1 h0)
    have := h.szK_le (i := i) (by rw [hi]; rfl)
    rwa [h1] at this
  · omega
theorem cnt_le {S K d} (h : Lk S K d) (pre : List (Slt S)) : cnt S K pre ≤ pre.length * 1000000 := by
  unfold cnt
  induction pre with
  | nil => simp
  | cons x pre ih =>
    obtain ⟨i, n, hn⟩ := x
    have := addOf_le h (at_of hn)
    simp only [List.map_cons, List.sum_cons, List.length_cons]
    rw [Nat.add_mul]
    omega

theorem all_any (R : Nat) (w : World) : Calls Tryd.prog 24 #[.pointer (some ⟨R, 0, none⟩)] w fun e w' => e = .returned (.func (.func 38) #[] #[.pointer (some ⟨w.heap.size, 0, none⟩)]) ∧ w' = w.alloc (.cells #[.pointer (some ⟨R, 0, none⟩)] 66) := by
  go_enter Tryd.func24, Tryd.ntmps24
  go_wp2
  go_ret
  exact ⟨rfl, rfl⟩
/-- blocks below Z are kept, but for those that F names -/
def KpF (Z : Nat) (F : Nat → Prop) (W W' : World) : Prop := W.heap.size ≤ W'.heap.size ∧ ∀ k, k < Z → ¬ F k → W'.heap[k]? = W.heap[k]?
theorem kpF_t {Z : Nat} {F : Nat → Prop} {A B C : World} (h : KpF Z F A B) (k : KpF Z F B C) : KpF Z F A C := ⟨Nat.le_trans h.1 k.1, fun i hi hf => (k.2 i hi hf).trans (h.2 i hi hf)⟩
theorem kpF_b {F : Nat → Prop} {w : World} (W : World) (l : Nat) (o o' : Obj) (hl : w.heap.size ≤ l) (h : W.heap[l]? = some o) (_ : o.isCells = false) (_ : o.isWalk = false) : KpF w.heap.size F W (W.putObj l o') :=
  ⟨by simp, fun k hk _ => World.putObj_heap_other (by omega)⟩
theorem kpF_below {Z : Nat} {F : Nat → Prop} {W W' : World} (hZ : Z ≤ W.heap.size) (h : Below W.heap.size W W') : KpF Z F W W' := ⟨h.size, fun k hk _ => h.block k (by omega)⟩
theorem kpF_set {Z : Nat} {F : Nat → Prop} {W : World} (p : Addr) (v : Value) (hp : F p.block) : KpF Z F W (W.setCell p v) := ⟨by simp [World.setCell], fun k _ hf => Below.heap_setCell _ _ _ _ (fun e => hf (e ▸ hp))⟩
theorem keeps_below {W W' : World} (h : Below W.heap.size W W') : KeepsOthers W W' := ⟨h.size, fun k o hk _ => (h.block k (Array.getElem?_eq_some_iff.1 hk).1).trans hk⟩

theorem all_stops {S : Tr} {B R g cap Bs n : Nat} {fv : Value} {w0 w : World} {F : Nat → Prop} (h0 : TAt B R S (.slice (some ⟨g, 0, none⟩) S.slots.length cap) fv w0) (hA : Agree w0 w) (hn : 1 ≤ n) (hBs : Blk w Bs [.pointer (some ⟨R, 0, none⟩)] 66)
    (hF1 : ∀ k, k < w0.heap.size → ¬ F k) (hF2 : ¬ F Bs) :
    SeqStopsK Fence.wide n Tryd.prog 38 #[.pointer (some ⟨Bs, 0, none⟩)] (encH S) (KpF w.heap.size F) (fun ys => ys = came S S.slots.length) (fun pre => ∃ k, k ≤ S.slots.length ∧ pre = came S k) S.slots.length w := by
  intro l J Jx W hW hJ hJx hY hj
  refine all1_in h0 hJ hn (fun X X' hk hx => ⟨Nat.le_trans hx.1 hk.1, fun k hlt => (hk.2 k (Nat.lt_of_lt_of_le hlt hA.1) (hF1 k hlt)).trans (hx.2 k hlt)⟩) (fun X X' hk hx => hx.kept (hk.2 Bs hBs.lt hF2)) hY (hBs.below hW) (hA.below hW) hj

/-- the kit's law of a range over a function, the frame behind the assignment told by what is put into it -/
theorem rangeFunc_put {α : Type} {P : Program} {n : Nat} {g : Operand} {ps : Array Tmp} {assign body : Code} {Q : Exit → Act → World → Prop} {a : Act} {w : World} (upd : α → Act → Act)
    (h1 : 1 ≤ n) {gf : Nat} {lb : Array Value} (hg : a.eval g = .func (.func gf) #[] lb) (eg : ∀ args w, (callFunc gf args).run P w = .ok (.enter gf args) w)
    {encs : α → Array Value} {Kp : World → World → Prop} {S Sp : List α → Prop} {N : Nat} (hseq : SeqStopsK Fence.wide (n - 1) P gf lb encs Kp S Sp N w)
    (hKt : ∀ {A B C : World}, Kp A B → Kp B C → Kp A C) (hKb : ∀ (W : World) (l : Nat) (o o' : Obj), w.heap.size ≤ l → W.heap[l]? = some o → o.isCells = false → o.isWalk = false → Kp W (W.putObj l o')) (hps : ∀ x, (encs x).size = ps.size)
    (I : List α → World → Prop) (Ix : Code → List α → World → Prop) (hI : OwnFrom w.heap.size I) (hIx : ∀ c, OwnFrom w.heap.size (Ix c)) (h0 : I [] w)
    (hassign : ∀ (l : Nat) (x : α) (W : World) (K : Act → World → Prop), K (upd x a) W →
      assign.wpIn (Fence.wide.inRound l) (n - 1 - 1) P (Exit.then K (fun _ _ _ => False)) { tmps := (ps.zip (encs x)).foldl (fun t (p, v) => t.setIfInBounds p v) a.tmps, defers := [] } W)
    (hbody : ∀ (l : Nat) (pre : List α) (x : α) (W : World), I pre W → pre.length < N → body.wpIn (Fence.wide.inRound l) (n - 1 - 1) P (ownPostK Kp I Ix (pre ++ [x]) W) (upd x a) W)
    (hdone : ∀ (D : Nat) (xs : List α) (W : World), w.heap.size ≤ D → S xs → I xs W → W.heap[D]? = some (.deferred (some [])) → Q .normal { a with defers := { target := .collected D, args := #[] } :: a.defers } W)
    (hstop : ∀ (D : Nat) (c : Code) (pre : List α) (W : World), w.heap.size ≤ D → Sp pre → Ix c pre W → W.heap[D]? = some (.deferred (some [])) → c.wpIn Fence.wide n P Q { a with defers := { target := .collected D, args := #[] } :: a.defers } W) :
    (Code.rangeFunc g ps assign body).wpIn Fence.wide n P Q a w :=
  wpIn_rangeFunc_ownF rfl h1 hg trivial eg hseq hKt hKb (Below.refl _ _) hps I Ix hI hIx h0 (fun x => upd x a) hassign hbody hdone hstop
/-- the same, where the assignment lays a block: a loop variable that lies in a box -/
theorem rangeFunc_box {α : Type} {P : Program} {n : Nat} {g : Operand} {ps : Array Tmp} {assign body : Code} {Q : Exit → Act → World → Prop} {a : Act} {w : World} (upd : α → Nat → Act → Act) (bx : α → Nat → World → Prop)
    (h1 : 1 ≤ n) {gf : Nat} {lb : Array Value} (hg : a.eval g = .func (.func gf) #[] lb) (eg : ∀ args w, (callFunc gf args).run P w = .ok (.enter gf args) w)
    {encs : α → Array Value} {Kp : World → World → Prop} {S Sp : List α → Prop} {N : Nat} (hseq : SeqStopsK Fence.wide (n - 1) P gf lb encs Kp S Sp N w)
    (hKt : ∀ {A B C : World}, Kp A B → Kp B C → Kp A C) (hKb : ∀ (W : World) (l : Nat) (o o' : Obj), w.heap.size ≤ l → W.heap[l]? = some o → o.isCells = false → o.isWalk = false → Kp W (W.putObj l o')) (hps : ∀ x, (encs x).size = ps.size)
    (I : List α → World → Prop) (Ix : Code → List α → World → Prop) (hI : OwnFrom w.heap.size I) (hIx : ∀ c, OwnFrom w.heap.size (Ix c)) (h0 : I [] w) (hbx : ∀ x, OwnFrom w.heap.size (fun (gn : Nat) W => bx x gn W))
    (hassign : ∀ (l : Nat) (pre : List α) (x : α) (W : World) (K : Act → World → Prop), I pre W → (∀ gn W', KeepsFrom w.heap.size W W' → Kp W W' → I pre W' → bx x gn W' → K (upd x gn a) W') →
      assign.wpIn (Fence.wide.inRound l) (n - 1 - 1) P (Exit.then K (fun _ _ _ => False)) { tmps := (ps.zip (encs x)).foldl (fun t (p, v) => t.setIfInBounds p v) a.tmps, defers := [] } W)
    (hbody : ∀ (l : Nat) (pre : List α) (x : α) (gn : Nat) (W : World), I pre W → bx x gn W → pre.length < N → body.wpIn (Fence.wide.inRound l) (n - 1 - 1) P (ownPostG w.heap.size Kp I Ix (pre ++ [x]) W) (upd x gn a) W)
    (hdone : ∀ (D : Nat) (xs : List α) (W : World), w.heap.size ≤ D → S xs → I xs W → W.heap[D]? = some (.deferred (some [])) → Q .normal { a with defers := { target := .collected D, args := #[] } :: a.defers } W)
    (hstop : ∀ (D : Nat) (c : Code) (pre : List α) (W : World), w.heap.size ≤ D → Sp pre → Ix c pre W → W.heap[D]? = some (.deferred (some [])) → c.wpIn Fence.wide n P Q { a with defers := { target := .collected D, args := #[] } :: a.defers } W) :
    (Code.rangeFunc g ps assign body).wpIn Fence.wide n P Q a w :=
  wpIn_rangeFunc_ownH rfl h1 hg trivial eg hseq hKt hKb (Below.refl _ _) hps I Ix hI hIx h0 (fun x a' W => ∃ gn, a' = upd x gn a ∧ bx x gn W) (fun x a' _ A B row hs hgr hr => by
      obtain ⟨gn, e, hb⟩ := hs
      exact ⟨gn, e, hbx x gn A B row hb hgr hr⟩)
    (fun l pre x W K hi hk => hassign l pre x W K hi (fun gn W' k1 k2 k3 k4 => hk _ _ k1 k2 k3 ⟨gn, rfl, k4⟩))
    (fun l pre x a' W _ _ hi hx hlt => by
      obtain ⟨gn, rfl, hb⟩ := hx
      exact hbody l pre x gn W hi hb hlt) hdone hstop
theorem blk_own {B gn : Nat} {cs : List Value} {t : TypeId} {X Y : World} {row : Option Nat} (h : Blk X gn cs t) (hg : X.grownBy Y row) (hr : ∀ r, row = some r → B ≤ r ∧ ∃ o : Obj, X.heap[r]? = some o ∧ o.isCells = false) : Blk Y gn cs t :=
  h.kept (hg.block gn h.lt (fun e => by
    obtain ⟨_, o, ho, hc⟩ := hr gn e.symm
    have : X.heap[gn]? = _ := h
    rw [this] at ho
    cases ho
    cases hc))
/-- a loop's variables put into a frame: the values handed over, the first variable, the box of the second -/
def putB (i j i' j' : Nat) (x y : Value) (gn : Nat) (a : Act) : Act := { tmps := (((a.tmps.setIfInBounds i x).setIfInBounds j y).setIfInBounds i' x).setIfInBounds j' (.pointer (some ⟨gn, 0, none⟩)), defers := [] }
theorem one_mark {n : Nat} {P : Program} {fn : Func} {tmps : Array Value} {R : Ending → World → Prop} {D1 : Nat} {W : World} (h1 : W.heap[D1]? = some (.deferred (some [])))
    (hL : LeavesIn Fence.wide n P fn tmps R [] .returning (W.putObj D1 (.deferred none))) :
    bodyPostM Fence.wide n P fn R .ret { tmps := tmps, defers := [{ target := .collected D1, args := #[] }] } W :=
  ⟨by simp, .inl ⟨D1, _, rfl, run_takeDeferred h1, hL⟩⟩
theorem below_put {B D : Nat} {w W : World} (o : Obj) (h : Below B w W) (hB : B ≤ D) (hD : D < W.heap.size) : Below B w (W.putObj D o) :=
  h.grown (grownBy_putObj' W D o) (by omega) (fun k e => by cases e; exact hB)
/-- two values put into a frame, and a loop's variable -/
def put3 (i j i' : Nat) (x y : Value) (a : Act) : Act := { tmps := ((a.tmps.setIfInBounds i x).setIfInBounds j y).setIfInBounds i' x, defers := [] }
end Go.Proofs.YtfelmdkeaacfeaaDoor.W
