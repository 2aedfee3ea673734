/- Texts joined: Close Mem Ob App Cells. -/
import Derived.Test.YtacdbnhnhdlmpaaGreatDoorRows
import Derived.WalkKit
import Derived.ProofKit
import Derived.OpenShut
import Derived.Lib.SmallJoins
import Derived.BigQuiet
import Derived.Lib.Hide
import Derived.WalkSmall
import Derived.Deep.AppendLies
set_option maxRecDepth 100000
set_option maxHeartbeats 40000000
set_option linter.unusedVariables false
set_option linter.unusedSimpArgs false
section
namespace Go.Proofs.YtacdbnhnhdlmpaaGreatDoor.W
open Go.ChangeShapes Go.WideShapes Go.ChangeAt Go.RowKit Go.Joins
theorem own : ownKnob Tryz.prog.godebug = none := by kernel_rfl
theorem laidOut : laidOutB Tryz.prog = true := by kernel_rfl
theorem trodAll_stays {H : Type} {enc : TypeId × Value → H} {P : Program} (hl : laidOutB P = true) {W W' : World} (hb : Below W.heap.size W W') {sp : Nat → Bool} :
    ∀ {ts : List TypeId} {vs : List Value} {ds : List (DataW H)} {ps : List MemPlace}, (∀ t ∈ ts, P.readableRec t = true ∧ t < P.types.size) →
      DataW.TrodAll enc P W 0 (fun _ => true) true ts vs ds ps → (∀ p ∈ ps, p.block < W.heap.size) → (∀ p ∈ ps, sp p.block = true) → DataW.TrodAll enc P W' 0 sp true ts vs ds ps
  | [], [], [], _, _, h, _, _ => h
  | [], _ :: _, _, _, _, h, _, _ => h.elim
  | [], [], _ :: _, _, _, h, _, _ => h.elim
  | _ :: _, [], _, _, _, h, _, _ => h.elim
  | _ :: _, _ :: _, [], _, _, h, _, _ => h.elim
  | t :: ts, v :: vs, d :: ds, ps, hT, ⟨p, q, h1, h2, e⟩, hlt, hs => by
    subst e
    obtain ⟨hr, hrow⟩ := hT t (by simp)
    exact ⟨p, q, WideElems.Trod_stays hl hr hrow h1 (fun x hx => hb.same (hlt x (by simp [hx]))) (fun x hx => hs x (by simp [hx])),
      trodAll_stays hl hb (fun t ht => hT t (by simp [ht])) h2 (fun x hx => hlt x (by simp [hx])) (fun x hx => hs x (by simp [hx])), rfl⟩
section
variable {H : Type} {enc : TypeId × Value → H} {P : Program}
theorem post_of_below {f : Func} {s : ChangeSpec} {apart fresh handsOn again : Bool} {W W' : World} {args : Array Value} {v : Value} {ds gs : List (DataW H)} {before pa pv : List MemPlace}
    (hW : DataW.Whole enc P f.params.toList s.vars apart W args.toList ds gs before)
    (hres : ∀ (b : Nat) (sp : Nat → Bool) (hd : Bool), DataW.TrodAll enc P W' b sp hd f.resultTypes.toList (v.resultList f.resultTypes.size) (s.fn H (ds ++ gs)).results [])
    (hargs : ∀ sp : Nat → Bool, (∀ p ∈ before, sp p.block = true) → DataW.TrodAll enc P W' 0 sp true f.params.toList args.toList (s.fn H (ds ++ gs)).args pa)
    (hvars : ∀ sp : Nat → Bool, (∀ p ∈ before, sp p.block = true) → DataW.TrodVars enc P W' sp s.vars (s.fn H (ds ++ gs)).vars pv)
    (hps : before = pa ++ pv) (hb : Below W.heap.size W W')
    (hok : ∀ (j : Nat) (t : TypeId) (r : Value), f.resultTypes[j]? = some t → (v.resultList f.resultTypes.size)[j]? = some r → Value.okWide P W' .any 0 t r) :
    s.post enc P f apart fresh handsOn again W args v W' := by
  have hlt : ∀ p ∈ before, p.block < W.heap.size := fun p hp => hW.lt p hp
  have hold : ∀ p ∈ before, (fun b => decide (b < W.heap.size)) p.block = true := fun p hp => by simpa using hlt p hp
  refine ⟨ds, gs, before, [], pa, pv, hW, hres _ _ _, hargs _ hold, hvars _ hold, World.keptBut_mono (fun p hp => ⟨hp, ?_⟩) (hb.frame (· ∈ before)), fun _ => ?_⟩
  · rw [hps, List.mem_append] at hp
    exact Or.inr hp
  · obtain ⟨_, _, _, _, _, hz, hn⟩ := hW
    refine ⟨hok, _, _, ([] ++ pa) ++ pv, ⟨[] ++ pa, pv, trodAll_append (hargs _ (fun _ _ => rfl)) (hres _ _ _), hvars _ (fun _ _ => rfl), rfl, ?_, ?_⟩, ?_⟩
    · intro b off hp
      have hin : MemPlace.cell b off ∈ before := by rw [hps]; simpa using hp
      rw [hb.frozen (hlt _ hin)]
      exact hz b off hin
    · intro ha
      have := hn ha
      rw [hps] at this
      simpa using this
    · intro p hp _
      rw [hps]
      simpa using hp
theorem law_post {f : Func} {s : ChangeSpec} {fresh handsOn again : Bool} {W W' : World} {args : Array Value} {ds gs : List (DataW H)} {before : List MemPlace} {tb : TypeId}
    (hl : laidOutB P = true) (hT : ∀ t ∈ f.params.toList, P.readableRec t = true ∧ t < P.types.size)
    (hr : f.resultTypes = #[tb]) (htb : P.underlying tb = some .bool) (hv : s.vars = [])
    (hfn : (s.fn H (ds ++ gs)).results = [.lit (.bool true)]) (hfa : (s.fn H (ds ++ gs)).args = ds) (hfv : (s.fn H (ds ++ gs)).vars = [])
    (hW : DataW.Whole enc P f.params.toList s.vars false W args.toList ds gs before) (hb : Below W.heap.size W W') :
    s.post enc P f false fresh handsOn again W args (.bool true) W' := by
  have hlt : ∀ p ∈ before, p.block < W.heap.size := fun p hp => hW.lt p hp
  have hW' := hW
  obtain ⟨p, q, hA, hV, rfl, _, _⟩ := hW
  rw [hv] at hV
  obtain ⟨rfl, rfl⟩ := trodVars_none hV
  simp only [List.append_nil] at *
  refine post_of_below (pa := p) (pv := []) hW' (fun _ _ _ => ?_) (fun sp hs => ?_) (fun sp _ => ?_) (by simp) hb (ok_one hr rfl (okWide_bool_mk htb _))
  · rw [hr]
    simp only [List.append_nil]
    rw [hfn]
    exact trodAll_cons_mk (shut_bool htb _) trodAll_mk0
  · simp only [List.append_nil]
    rw [hfa]
    exact trodAll_stays hl hb hT hA hlt hs
  · simp only [List.append_nil]
    rw [hv, hfv]
    rfl
end
end Go.Proofs.YtacdbnhnhdlmpaaGreatDoor.W
end
section
namespace Go.Proofs.YtacdbnhnhdlmpaaGreatDoor.W
open Go.RowKit
structure Chg (F : Nat → Prop) (w w' : World) : Prop where
  os : w'.os = w.os
  tape : w'.tape = w.tape
  output : w'.output = w.output
  size : w.heap.size ≤ w'.heap.size
  block : ∀ k, k < w.heap.size → ¬ F k → w'.heap[k]? = w.heap[k]?
theorem Chg.refl (F : Nat → Prop) (w : World) : Chg F w w := ⟨rfl, rfl, rfl, Nat.le_refl _, fun _ _ _ => rfl⟩
theorem Chg.mono {F G : Nat → Prop} {w w' : World} (h : Chg F w w') (k : ∀ i, i < w.heap.size → F i → G i) : Chg G w w' :=
  ⟨h.os, h.tape, h.output, h.size, fun i hi hg => h.block i hi (fun hf => hg (k i hi hf))⟩
theorem Chg.trans {F G : Nat → Prop} {a b c : World} (h : Chg F a b) (k : Chg G b c) (hG : ∀ i, i < a.heap.size → G i → F i) : Chg F a c :=
  ⟨k.os.trans h.os, k.tape.trans h.tape, k.output.trans h.output, Nat.le_trans h.size k.size,
   fun i hi hf => (k.block i (Nat.lt_of_lt_of_le hi h.size) (fun hg => hf (hG i hi hg))).trans (h.block i hi hf)⟩
theorem Chg.of_below {F : Nat → Prop} {w w' : World} (h : Below w.heap.size w w') : Chg F w w' := ⟨h.os, h.tape, h.output, h.size, fun k hk _ => h.block k hk⟩
theorem Chg.below {F : Nat → Prop} {B : Nat} {w w' : World} (h : Chg F w w') (hB : B ≤ w.heap.size) (hF : ∀ k, F k → B ≤ k) : Below B w w' :=
  ⟨h.os, h.tape, h.output, h.size, fun k hk => h.block k (by omega) (fun hf => by have := hF k hf; omega)⟩
theorem Chg.drew {F : Nat → Prop} {a w : World} (h : Chg F a w) : Chg F a w.drew := ⟨h.os, h.tape, h.output, h.size, h.block⟩
theorem Chg.alloc {F : Nat → Prop} {a w : World} (h : Chg F a w) (o : Obj) : Chg F a (w.alloc o) :=
  h.trans (G := F) ⟨rfl, rfl, rfl, by simp, fun k hk _ => Below.heap_alloc _ _ _ (by omega)⟩ (fun _ _ h => h)
theorem Chg.setCell {F : Nat → Prop} {a w : World} (h : Chg F a w) (p : Addr) (hp : p.block < a.heap.size → F p.block) (u : Value) : Chg F a (w.setCell p u) :=
  h.trans (G := fun k => k = p.block) ⟨rfl, rfl, rfl, by simp [World.setCell], fun k _ hf => Below.heap_setCell _ _ _ _ hf⟩ (fun i hi e => by subst e; exact hp hi)
theorem Chg.grown {F : Nat → Prop} {a w w' : World} {row : Option Nat} (h : Chg F a w) (hg : w.grownBy w' row) (hr : ∀ k, row = some k → k < a.heap.size → F k) : Chg F a w' :=
  h.trans (G := fun k => row = some k) ⟨hg.os, hg.tape, hg.output, hg.size, fun k hk hf => hg.block k hk (fun e => hf e.symm)⟩ (fun i hi e => hr i e hi)
theorem Below.drewN {B : Nat} {a w : World} (h : Below B a w) (n : Nat) : Below B a (w.drewN n) := ⟨h.os, h.tape, h.output, h.size, h.block⟩
theorem bcell {W w1 : World} (hb : Below W.heap.size W w1) : (∀ b o, b < W.heap.size → w1.cell? ⟨b, o, none⟩ = W.cell? ⟨b, o, none⟩) ∧ (∀ b o, b < W.heap.size → w1.frozen? ⟨b, o, none⟩ = W.frozen? ⟨b, o, none⟩) :=
  ⟨fun b o h => hb.cell (p := ⟨b, o, none⟩) h, fun b o h => hb.frozen (p := ⟨b, o, none⟩) h⟩
theorem bthen {W w1 w2 : World} (h : Below W.heap.size W w1) (k : Below w1.heap.size w1 w2) : Below W.heap.size W w2 := h.trans (k.mono h.size)
def Blk (w : World) (g : Nat) (cs : List Value) (t : TypeId) : Prop := w.heap[g]? = some (.cells cs.toArray t (0, 0))
theorem Blk.lt {w : World} {g : Nat} {cs : List Value} {t : TypeId} (h : Blk w g cs t) : g < w.heap.size := lt_of_block h
theorem Blk.cell {w : World} {g : Nat} {cs : List Value} {t : TypeId} (h : Blk w g cs t) (j : Nat) : w.cell? ⟨g, j, none⟩ = cs[j]? := by
  unfold Blk at h; simp [World.cell?, h]
theorem Blk.free {w : World} {g : Nat} {cs : List Value} {t : TypeId} (h : Blk w g cs t) (j : Nat) : w.frozen? ⟨g, j, none⟩ = false := by
  unfold Blk at h; simp [World.frozen?, h]
theorem Blk.kept {w w' : World} {g : Nat} {cs : List Value} {t : TypeId} (h : Blk w g cs t) (e : w'.heap[g]? = w.heap[g]?) : Blk w' g cs t := by
  unfold Blk at *; rw [e]; exact h
theorem Blk.chg {F : Nat → Prop} {w w' : World} {g : Nat} {cs : List Value} {t : TypeId} (h : Blk w g cs t) (k : Chg F w w') (hg : ¬ F g) : Blk w' g cs t :=
  h.kept (k.block g h.lt hg)
theorem Blk.below {w w' : World} {g : Nat} {cs : List Value} {t : TypeId} (h : Blk w g cs t) (k : Below w.heap.size w w') : Blk w' g cs t :=
  h.kept (k.block g h.lt)
theorem Blk.set {w : World} {g : Nat} {cs : List Value} {t : TypeId} (h : Blk w g cs t) (j : Nat) (u : Value) : Blk (w.setCell ⟨g, j, none⟩ u) g (cs.set j u) t := by
  have hlt := h.lt
  unfold Blk at *
  have h' : w.heap[g] = .cells cs.toArray t (0, 0) := by simpa [Array.getElem?_eq_getElem hlt] using h
  show (w.heap.modify g _)[g]? = _
  rw [Array.getElem?_eq_getElem (by simpa using hlt), Array.getElem_modify_self, h']
  simp
theorem Blk.setOther {w : World} {g : Nat} {cs : List Value} {t : TypeId} (h : Blk w g cs t) (p : Addr) (hp : g ≠ p.block) (u : Value) : Blk (w.setCell p u) g cs t :=
  h.kept (Below.heap_setCell _ _ _ _ hp)
theorem Blk.new (w : World) (cs : List Value) (t : TypeId) : Blk (w.alloc (.cells cs.toArray t)) w.heap.size cs t := heap_alloc_new w _
theorem Blk.alloc {w : World} {g : Nat} {cs : List Value} {t : TypeId} (h : Blk w g cs t) (o : Obj) : Blk (w.alloc o) g cs t := h.kept (Below.heap_alloc w o g h.lt)
abbrev Own (w : World) (e : TypeId) (size : Nat) (v : Value) (n : Nat) (xs : List Value) : Prop := w.ownsRow 0 e size v n xs
theorem own_shape {w : World} {e : TypeId} {size : Nat} {v : Value} {n : Nat} {xs : List Value} (h : Own w e size v n xs) : ∃ a cap, v = .slice a n cap := by
  rcases h.2 with ⟨rfl, rfl⟩ | ⟨g, cap, cur, rfl, _⟩
  · exact ⟨none, 0, rfl⟩
  · exact ⟨_, _, rfl⟩
theorem own_some {w : World} {e : TypeId} {size : Nat} {v : Value} {n : Nat} {xs : List Value} (h : Own w e size v n xs) (hn : 0 < n) : ∃ g cap, v = .slice (some ⟨g, 0, none⟩) n cap ∧ n ≤ cap := by
  rcases h.2 with ⟨rfl, rfl⟩ | ⟨g, cap, cur, rfl, _, _, hc, _⟩
  · omega
  · exact ⟨_, _, rfl, hc⟩
theorem own_lt {w : World} {e : TypeId} {size : Nat} {v : Value} {n : Nat} {xs : List Value} (h : Own w e size v n xs) {k : Nat} (hk : v.ownBlock = some k) : k < w.heap.size := (h.lt k hk).2
theorem own_kept {w w' : World} {e : TypeId} {size : Nat} {v : Value} {n : Nat} {xs : List Value} (h : Own w e size v n xs) (k : ∀ g, v.ownBlock = some g → w'.heap[g]? = w.heap[g]?) : Own w' e size v n xs := by
  refine ⟨h.1, ?_⟩
  rcases h.2 with hn | ⟨g, cap, cur, rfl, hb, hgg, rest⟩
  · exact .inl hn
  · exact .inr ⟨g, cap, cur, rfl, hb, by rw [k g rfl]; exact hgg, rest⟩
theorem own_set {w : World} {e : TypeId} {size g n cap : Nat} {xs : List Value} (h : Own w e size (.slice (some ⟨g, 0, none⟩) n cap) n xs) (j : Nat) (u : Value) : Own (w.setCell ⟨g, j, none⟩ u) e size (.slice (some ⟨g, 0, none⟩) n cap) n (xs.set j u) := (h.stored j u).1
theorem own_pop {w : World} {e : TypeId} {size g n cap : Nat} {xs : List Value} (h : Own w e size (.slice (some ⟨g, 0, none⟩) (n + 1) cap) (n + 1) xs) : Own w e size (.slice (some ⟨g, 0, none⟩) n cap) n (xs.take (n * size)) := by
  obtain ⟨h1, h2⟩ := h
  refine ⟨by rw [List.length_take, h1]; exact Nat.min_eq_left (Nat.mul_le_mul_right _ (Nat.le_succ n)), ?_⟩
  rcases h2 with ⟨h', _⟩ | ⟨g', cap', cur, h', hb, hg, hc, hm, hs, ht⟩
  · simp at h'
  · simp only [Value.slice.injEq, Option.some.injEq, Addr.mk.injEq, and_true, true_and] at h'
    obtain ⟨rfl, rfl⟩ := h'
    refine .inr ⟨g, cap, cur, rfl, hb, hg, by omega, hm, hs, ?_⟩
    rw [← ht, List.take_take, Nat.min_eq_left (Nat.mul_le_mul_right _ (Nat.le_succ n))]
structure Ob where
  P : World → Prop
  F : Nat → Prop
  here : ∀ w, P w → ∀ k, F k → k < w.heap.size
  loc : ∀ w w', P w → (∀ k, F k → w'.heap[k]? = w.heap[k]?) → P w'
structure All (B : Nat) (w0 : World) (l : List Ob) (w : World) : Prop where
  P : ∀ o ∈ l, o.P w
  apart : l.Pairwise fun a b => ∀ k, a.F k → ¬ b.F k
  base : ∀ o ∈ l, ∀ k, o.F k → B ≤ k
  below : Below B w0 w
  le : B ≤ w.heap.size
theorem All.head {B : Nat} {w0 w : World} {o : Ob} {l : List Ob} (h : All B w0 (o :: l) w) : o.P w := h.P o (by simp)
theorem All.mid {B : Nat} {w0 w : World} {o : Ob} {l1 l2 : List Ob} (h : All B w0 (l1 ++ o :: l2) w) : o.P w := h.P o (by simp)
theorem All.start (w : World) : All w.heap.size w [] w := ⟨by simp, by simp, by simp, Below.refl _ _, Nat.le_refl _⟩
theorem All.still {B : Nat} {w0 w w' : World} {l : List Ob} (h : All B w0 l w) (k : Below w.heap.size w w') : All B w0 l w' :=
  ⟨fun o ho => o.loc w w' (h.P o ho) fun i hi => k.block i (o.here w (h.P o ho) i hi), h.apart, h.base, h.below.trans (k.mono h.le), Nat.le_trans h.le k.size⟩
theorem All.drewN {B : Nat} {w0 w : World} {l : List Ob} (h : All B w0 l w) (n : Nat) : All B w0 l (w.drewN n) := h.still (Below.drewN (Below.refl _ _) n)
theorem All.alloc {B : Nat} {w0 w : World} {l : List Ob} (h : All B w0 l w) (o : Obj) : All B w0 l (w.alloc o) := h.still ((Below.refl _ _).alloc (Nat.le_refl _) _)
theorem All.step {B : Nat} {w0 w w' : World} {o o' : Ob} (l1 : List Ob) {l2 : List Ob} (h : All B w0 (l1 ++ o :: l2) w) (hp : o'.P w') (hc : Chg o.F w w') (hk : ∀ k, o'.F k → o.F k ∨ w.heap.size ≤ k) : All B w0 (l1 ++ o' :: l2) w' := by
  have ap := h.apart
  rw [List.pairwise_append] at ap
  obtain ⟨a1, a2, a3⟩ := ap
  rw [List.pairwise_cons] at a2
  have hB : ∀ k, o.F k → B ≤ k := h.base o (by simp)
  have other : ∀ x, x ∈ l1 ∨ x ∈ l2 → x.P w' ∧ (∀ k, x.F k → ¬ o'.F k) := by
    intro x hx
    have hxP : x.P w := h.P x (by rcases hx with hx | hx <;> simp [hx])
    have hxo : ∀ k, x.F k → ¬ o.F k := by
      rcases hx with hx | hx
      · exact a3 x hx o (by simp)
      · exact fun k hk ho => a2.1 x hx k ho hk
    refine ⟨x.loc w w' hxP fun k hk => hc.block k (x.here w hxP k hk) (hxo k hk), fun k hk ho' => ?_⟩
    rcases hk' : (‹∀ k, o'.F k → o.F k ∨ w.heap.size ≤ k› k ho') with h1 | h1
    · exact hxo k hk h1
    · have := x.here w hxP k hk; omega
  refine ⟨?_, ?_, ?_, ?_, Nat.le_trans h.le hc.size⟩
  · intro x hx
    rw [List.mem_append, List.mem_cons] at hx
    rcases hx with hx | rfl | hx
    · exact (other x (.inl hx)).1
    · exact hp
    · exact (other x (.inr hx)).1
  · rw [List.pairwise_append]
    refine ⟨a1, ?_, ?_⟩
    · rw [List.pairwise_cons]
      exact ⟨fun x hx k ho' hk => (other x (.inr hx)).2 k hk ho', a2.2⟩
    · intro x hx y hy
      rw [List.mem_cons] at hy
      rcases hy with rfl | hy
      · exact (other x (.inl hx)).2
      · exact a3 x hx y (by simp [hy])
  · intro x hx k hk'
    rw [List.mem_append, List.mem_cons] at hx
    rcases hx with hx | rfl | hx
    · exact h.base x (by simp [hx]) k hk'
    · rcases hk k hk' with h1 | h1
      · exact hB k h1
      · exact Nat.le_trans h.le h1
    · exact h.base x (by simp [hx]) k hk'
  · exact h.below.trans (hc.below h.le hB)
theorem All.new {B : Nat} {w0 w w' : World} {o : Ob} {l : List Ob} (h : All B w0 l w) (hp : o.P w') (hb : Below w.heap.size w w') (hk : ∀ k, o.F k → w.heap.size ≤ k) : All B w0 (o :: l) w' := by
  have h' := h.still hb
  refine ⟨?_, ?_, ?_, h'.below, h'.le⟩
  · intro x hx
    rcases List.mem_cons.1 hx with rfl | hx
    · exact hp
    · exact h'.P x hx
  · rw [List.pairwise_cons]
    exact ⟨fun x hx k h1 h2 => by have := hk k h1; have := x.here w (h.P x hx) k h2; omega, h.apart⟩
  · intro x hx k h1
    rcases List.mem_cons.1 hx with rfl | hx
    · exact Nat.le_trans h.le (hk k h1)
    · exact h.base x hx k h1
theorem All.tail {B : Nat} {w0 w : World} {a : Ob} {l : List Ob} (h : All B w0 (a :: l) w) : All B w0 l w :=
  ⟨fun o ho => h.P o (by simp [ho]), (List.pairwise_cons.1 h.apart).2, fun o ho => h.base o (by simp [ho]), h.below, h.le⟩
theorem All.sub {B : Nat} {w0 w : World} {l l' : List Ob} (h : All B w0 l w) (hs : l'.Sublist l) : All B w0 l' w :=
  ⟨fun o ho => h.P o (hs.subset ho), h.apart.sublist hs, fun o ho => h.base o (hs.subset ho), h.below, h.le⟩
def sl (e : TypeId) (size : Nat) (v : Value) (n : Nat) (xs : List Value) : Ob :=
  ⟨fun w => Own w e size v n xs, fun k => v.ownBlock = some k, fun w h k hk => own_lt h hk, fun w w' h k => own_kept h k⟩
def bk (g : Nat) (cs : List Value) (t : TypeId) : Ob :=
  ⟨fun w => Blk w g cs t, fun k => k = g, fun w h k hk => hk ▸ h.lt, fun w w' h k => h.kept (k g rfl)⟩
def hcells (xs : List Int) : List Value := xs.map (Value.int .i64)
theorem All.nil {B : Nat} {w0 w : World} {l : List Ob} (h : All B w0 l w) (e : TypeId) (size : Nat) : All B w0 (sl e size (.slice none 0 0) 0 [] :: l) w :=
  h.new (World.ownsRow_nil _ _ _ _) (Below.refl _ _) (by intro k hk; simp [sl, Value.ownBlock] at hk)
theorem All.newBk {B : Nat} {w0 w : World} {l : List Ob} (h : All B w0 l w) (cs : List Value) (t : TypeId) : All B w0 (bk w.heap.size cs t :: l) (w.alloc (.cells cs.toArray t)) :=
  h.new (Blk.new w cs t) ((Below.refl _ _).alloc (Nat.le_refl _) _) (by intro k hk; have : k = w.heap.size := hk; omega)
theorem All.setBk {B : Nat} {w0 w : World} (l1 : List Ob) {l2 : List Ob} {g : Nat} {cs : List Value} {t : TypeId} (h : All B w0 (l1 ++ bk g cs t :: l2) w) (j : Nat) (u : Value) : All B w0 (l1 ++ bk g (cs.set j u) t :: l2) (w.setCell ⟨g, j, none⟩ u) :=
  h.step l1 (o' := bk g (cs.set j u) t) (Blk.set h.mid j u) ((Chg.refl (bk g cs t).F w).setCell ⟨g, j, none⟩ (fun _ => (rfl : g = g)) u) (fun k hk => .inl hk)
structure ET (P : Program) (t e : TypeId) (size bytes : Nat) : Prop where
  under : P.underlying t = some (.slice e)
  info : ∃ i z, P.info? e = some i ∧ i.zero = some z ∧ i.size = size ∧ i.bytes = bytes ∧ z.cells.size = size
  pos : 0 < size
theorem ET.mk' {P : Program} {t e : TypeId} {size bytes : Nat} {z : Value} (h : P.underlying t = some (.slice e)) (hi : (P.info? e).map (fun i => (i.zero, i.size, i.bytes)) = some (some z, size, bytes)) (hz : z.cells.size = size) (hp : 0 < size) : ET P t e size bytes := by
  obtain ⟨i, h1, h2, h3, h4⟩ := info_parts hi
  exact ⟨h, ⟨i, z, h1, h2, h3, h4, hz⟩, hp⟩
theorem own_news {w : World} {e : TypeId} {size n g cap : Nat} {xs : List Value} (h : Own w e size (.slice (some ⟨g, 0, none⟩) n cap) n xs) (j : Nat) (u : Value) (hu : xs[j]? = some u) : w.cell? ((⟨g, 0, none⟩ : Addr).add j) = some u := by
  have hj : j < n * size := by rw [← h.1]; exact (List.getElem?_eq_some_iff.1 hu).1
  have := h.cellAt j hj
  rw [hu] at this
  rw [Go.WideShapes.add_plain]
  simpa using this
theorem run_append_all {P : Program} {t ty e : TypeId} {size bytes : Nat} (hT : ET P t e size bytes) {B : Nat} {w0 w : World} (l1 : List Ob) {l2 : List Ob} {dv : Value} {n : Nat} {xs : List Value}
    (h : All B w0 (l1 ++ sl e size dv n xs :: l2) w) {sv : Value} {m : Nat} {ys : List Value} (hs : Own w e size sv m ys) (h1 : ∀ u ∈ ys, u.oneCell' = true) (hlen : n + m ≤ 1000000000) (hby : bytes ≤ 1000) :
    ∃ v' w', (Builtin.append_ #[t, t] ty #[dv, sv]).run P w = .ok v' w' ∧ All B w0 (l1 ++ sl e size v' (n + m) (xs ++ ys) :: l2) w' := by
  obtain ⟨i, z, hi, hz0, hz1, hz2, hz3⟩ := hT.info
  have hown : Own w e size dv n xs := h.mid
  rcases hs.2 with ⟨rfl, rfl⟩ | ⟨g, cap, cur, rfl, _⟩
  · have hy : ys = [] := List.length_eq_zero_iff.1 (by rw [hs.1]; omega)
    subst hy
    refine ⟨dv, w, run_append_owned_none w 0 t ty e i size hT.under hi dv n xs hown, ?_⟩
    rw [List.append_nil]
    exact h
  · have hmul : (n + m) * bytes ≤ 1000000000 * 1000 := Nat.mul_le_mul hlen hby
    obtain ⟨v', w', hr, h2, h3, _, h5⟩ := run_append_own_at (P := P) w 0 t ty e i z size bytes hT.under hi hz0 hz1 hz2 hz3 hT.pos dv n xs hown ⟨g, 0, none⟩ m cap ys hs.1 (own_news hs) h1 (by unfold maxLen; omega) (by omega) (Nat.zero_le _)
    refine ⟨v', w', hr, h.step l1 (o' := sl e size v' (n + m) (xs ++ ys)) h2 ((Chg.refl _ _).grown h3 (fun k hk _ => hk)) ?_⟩
    intro k hk
    have hk' : v'.ownBlock = some k := hk
    rcases h5 with h5 | h5
    · exact .inl (show dv.ownBlock = some k by rw [← h5]; exact hk')
    · right
      rw [h5] at hk'
      have := Option.some.inj hk'
      omega
theorem wp_append_all {P : Program} {t e : TypeId} {size bytes : Nat} (hT : ET P t e size bytes) {B : Nat} {w0 w : World} (l1 : List Ob) {l2 : List Ob} {dv : Value} {n : Nat} {xs : List Value}
    (h : All B w0 (l1 ++ sl e size dv n xs :: l2) w) {sv : Value} {m : Nat} {ys : List Value} (hs : Own w e size sv m ys) (h1 : ∀ u ∈ ys, u.oneCell' = true) (hlen : n + m ≤ 1000000000) (hby : bytes ≤ 1000)
    {o : Oper} {a : Act} {K : Act → World → Prop} {Q : Exit → Act → World → Prop} (s x : Operand) (ho : o.op = .call { callee := .builtin .append, args := #[s, x], argTypes := #[t, t] }) (hd : a.eval s = dv) (hx : a.eval x = sv)
    (hc : ∀ v' w', All B w0 (l1 ++ sl e size v' (n + m) (xs ++ ys) :: l2) w' → K (a.put o.dst v') w') : o.wp P a w K Q := by
  obtain ⟨v', w', hr, h2⟩ := run_append_all (ty := o.type) hT l1 h hs h1 hlen hby
  unfold Oper.wp execOp
  simp only [ho, resolve, invoke, builtin, Sem.run_bind, Sem.run_pure, Result.andThen_ok, List.map_toArray, List.map_cons, List.map_nil, hd, hx, hr]
  exact hc v' w' h2
theorem wpList_append_all {P : Program} {t e : TypeId} {size bytes : Nat} (hT : ET P t e size bytes) {B : Nat} {w0 w : World} (l1 : List Ob) {l2 : List Ob} {dv : Value} {n : Nat} {xs : List Value}
    (h : All B w0 (l1 ++ sl e size dv n xs :: l2) w) {sv : Value} {m : Nat} {ys : List Value} (hs : Own w e size sv m ys) (h1 : ∀ u ∈ ys, u.oneCell' = true) (hlen : n + m ≤ 1000000000) (hby : bytes ≤ 1000)
    {ops : Array Oper} {rest : List Oper} {o : Oper} {a : Act} {Q : Exit → Act → World → Prop} (hgd : o.guard = none) (s x : Operand) (ho : o.op = .call { callee := .builtin .append, args := #[s, x], argTypes := #[t, t] }) (hd : a.eval s = dv) (hx : a.eval x = sv)
    (hc : ∀ v' w', All B w0 (l1 ++ sl e size v' (n + m) (xs ++ ys) :: l2) w' → wpList P ops Q rest (a.put o.dst v') w') : wpList P ops Q (o :: rest) a w :=
  wpList_plain hgd fun K hK => wp_append_all hT l1 h hs h1 hlen hby s x ho hd hx fun v' w' h' => hK _ _ (hc v' w' h')
theorem own_at {w : World} {g n e size : Nat} {cs : List Value} (h : Blk w g cs e) (hl : cs.length = n * size) (hn : n ≤ 1000000000) : Own w e size (.slice (some ⟨g, 0, none⟩) n n) n cs :=
  ⟨hl, .inr ⟨g, n, cs.toArray, rfl, Nat.zero_le _, h, Nat.le_refl _, by unfold maxLen; omega, by simpa using hl, by rw [← hl]; simp⟩⟩
theorem All.newSl {B : Nat} {w0 w : World} {l : List Ob} (h : All B w0 l w) (e : TypeId) (size n : Nat) (cs : List Value) (hl : cs.length = n * size) (hn : n ≤ 1000000000) :
    All B w0 (sl e size (.slice (some ⟨w.heap.size, 0, none⟩) n n) n cs :: l) (w.alloc (.cells cs.toArray e)) :=
  h.new (own_at (Blk.new w cs e) hl hn) ((Below.refl _ _).alloc (Nat.le_refl _) _) (fun k hk => Nat.le_of_eq (by simpa [sl, Value.ownBlock] using hk))
theorem All.newBkA {B : Nat} {w0 w : World} {l : List Ob} (h : All B w0 l w) (g : Nat) (hg : w.heap.size = g) (cs : List Value) (t : TypeId) : All B w0 (bk g cs t :: l) (w.alloc (.cells cs.toArray t)) := hg ▸ h.newBk cs t
theorem All.newSlA {B : Nat} {w0 w : World} {l : List Ob} (h : All B w0 l w) (g : Nat) (hg : w.heap.size = g) (e : TypeId) (size n : Nat) (cs : List Value) (hl : cs.length = n * size) (hn : n ≤ 1000000000) :
    All B w0 (sl e size (.slice (some ⟨g, 0, none⟩) n n) n cs :: l) (w.alloc (.cells cs.toArray e)) := hg ▸ h.newSl e size n cs hl hn
theorem All.setSl {B : Nat} {w0 w : World} (l1 : List Ob) {l2 : List Ob} {g n cap size : Nat} {e : TypeId} {xs : List Value} (h : All B w0 (l1 ++ sl e size (.slice (some ⟨g, 0, none⟩) n cap) n xs :: l2) w) (j : Nat) (u : Value) :
    All B w0 (l1 ++ sl e size (.slice (some ⟨g, 0, none⟩) n cap) n (xs.set j u) :: l2) (w.setCell ⟨g, j, none⟩ u) :=
  h.step l1 (o' := sl e size (.slice (some ⟨g, 0, none⟩) n cap) n (xs.set j u)) (own_set h.mid j u) ((Chg.refl (sl e size (.slice (some ⟨g, 0, none⟩) n cap) n xs).F w).setCell ⟨g, j, none⟩ (fun _ => (rfl : some g = some g)) u) (fun k hk => .inl hk)
end Go.Proofs.YtacdbnhnhdlmpaaGreatDoor.W
end
section
namespace Go.Proofs.YtacdbnhnhdlmpaaGreatDoor.W
open Go.RowKit
def setAll : List Value → Nat → List Value → List Value
  | l, _, [] => l
  | l, o, x :: r => setAll (l.set o x) (o + 1) r
theorem setAll_skip (pre rest : List Value) : ∀ (bs : List Value) (o : Nat), setAll (pre ++ rest) (pre.length + o) bs = pre ++ setAll rest o bs := by
  intro bs
  induction bs generalizing rest with
  | nil => intro o; rfl
  | cons b bs ih =>
    intro o
    simp only [setAll]
    rw [List.set_append_right _ _ (by omega), show pre.length + o - pre.length = o by omega, show pre.length + o + 1 = pre.length + (o + 1) by omega]
    exact ih _ _
theorem setAll_head : ∀ (xs bs rest : List Value), xs.length = bs.length → setAll (xs ++ rest) 0 bs = bs ++ rest := by
  intro xs
  induction xs with
  | nil => intro bs rest h; cases bs with | nil => rfl | cons b bs => simp at h
  | cons a xs ih =>
    intro bs rest h
    cases bs with
    | nil => simp at h
    | cons b bs =>
      simp only [setAll, List.cons_append, List.set_cons_zero]
      have := setAll_skip [b] (xs ++ rest) bs 0
      simp only [List.cons_append, List.nil_append, List.length_cons, List.length_nil, Nat.zero_add, Nat.add_zero] at this
      rw [Nat.zero_add, this, ih bs rest (by simpa using h)]
variable {α : Type} {enc : α → List Value} {m : Nat}
def rows (enc : α → List Value) : List α → List Value
  | [] => []
  | x :: r => enc x ++ rows enc r
theorem rows_append (l r : List α) : rows enc (l ++ r) = rows enc l ++ rows enc r := by
  induction l with
  | nil => rfl
  | cons x l ih => simp [rows, ih]
theorem rows_snoc (l : List α) (x : α) : rows enc (l ++ [x]) = rows enc l ++ enc x := by rw [rows_append]; simp [rows]
theorem rows_at (he : ∀ v, (enc v).length = m) (l : List α) (i : Nat) (x : α) (h : l[i]? = some x) (j : Nat) (hj : j < m) : (rows enc l)[i * m + j]? = (enc x)[j]? := by
  induction l generalizing i with
  | nil => simp at h
  | cons y l ih =>
    cases i with
    | zero =>
      simp at h
      subst h
      rw [Nat.zero_mul, Nat.zero_add]
      simp only [rows]
      rw [List.getElem?_append_left (by rw [he]; exact hj)]
    | succ i =>
      simp at h
      simp only [rows]
      rw [List.getElem?_append_right (by rw [he, Nat.succ_mul]; omega), he, show (i + 1) * m + j - m = i * m + j by rw [Nat.succ_mul]; omega]
      exact ih i h
theorem rows_field (he : ∀ v, (enc v).length = m) (l : List α) (i j : Nat) (x x' : α) (u : Value) (h : l[i]? = some x) (hj : j < m) (hx : enc x' = (enc x).set j u) : rows enc (l.set i x') = (rows enc l).set (i * m + j) u := by
  induction l generalizing i with
  | nil => simp at h
  | cons y l ih =>
    cases i with
    | zero =>
      simp at h
      subst h
      rw [Nat.zero_mul, Nat.zero_add]
      simp only [rows, List.set_cons_zero]
      rw [List.set_append_left _ _ (by rw [he]; exact hj), hx]
    | succ i =>
      simp at h
      simp only [rows, List.set_cons_succ]
      rw [List.set_append_right _ _ (by rw [he, Nat.succ_mul]; omega), he, show (i + 1) * m + j - m = i * m + j by rw [Nat.succ_mul]; omega, ih i h]
end Go.Proofs.YtacdbnhnhdlmpaaGreatDoor.W
end
