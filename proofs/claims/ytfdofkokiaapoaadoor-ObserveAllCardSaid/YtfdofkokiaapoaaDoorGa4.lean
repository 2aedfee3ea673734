/- Texts joined: Reg Ob. -/
import Derived.Deep.RegionHeld3
import Derived.BigQuiet
import Derived.WalkKit
import Derived.Test.YtfdofkokiaapoaaDoorGa1
section
/- Regions that draw their order: if the calls of a region wait for one another, and each yields one value in every world of its stage, one walk in the order of the text serves every order. No program in sight. -/
namespace Go.Proofs.YtfdofkokiaapoaaDoor.W
open Go

def isCall (o : Oper) : Bool := match o.op with | .call c => (match c.callee with | .builtin b => (match b with | .print => true | .println => true | _ => false) | _ => true) | _ => false

section
variable (P : Program) (ops : Array Oper) (S : World → Prop) (C : Nat → World → Prop)

/-- in every world that meets S, o yields v and changes nothing -/
def heldRun (o : Oper) (a : Act) (v : Value) : Prop :=
  ∀ w, S w → (execOp a.eval o).run P w = .ok (.value v) w ∨ ((execOp a.eval o).run P w = .ok .skip w ∧ v = undef)
/-- in every world of the first class, o calls a function that returns v in a world of the second -/
def callRun (o : Oper) (a : Act) (C1 C2 : World → Prop) (v : Value) : Prop :=
  ∀ w, C1 w → ∃ f args, (execOp a.eval o).run P w = .ok (.enter f args) w ∧ Calls P f args w (fun e w' => e = .returned v ∧ C2 w')

/-- what comes of o in the state a at stage k: the value v, and the stage k' -/
def Yst (o : Oper) (k : Nat) (v : Value) (k' : Nat) (a : Act) : Prop :=
  (Region.wanted o (yielded ops a.tmps) = true ∧ heldRun P S o a v ∧ k' = k) ∨
  (Region.wanted o (yielded ops a.tmps) = true ∧ isCall o = true ∧ callRun P o a (C k) (C (k + 1)) v ∧ k' = k + 1) ∨
  (Region.wanted o (yielded ops a.tmps) = false ∧ v = undef ∧ k' = k)

/-- the walk in the order of the text -/
def wpSt (Q : Nat → Act → Prop) : Nat → List Oper → Act → Prop
  | k, [], a => Q k a
  | k, o :: rest, a => ∃ v k', Yst P ops S C o k v k' a ∧ wpSt Q k' rest (a.put o.dst v)

/-- whichever comes up -/
def anySt (md : Region.Mode) (Q : Nat → Act → Prop) : Nat → Array Bool → Nat → Act → Prop
  | 0, listed, k, a => Region.ready md ops listed = [] ∧ Q k a
  | n + 1, listed, k, a => (Region.ready md ops listed = [] → Q k a) ∧ ∀ i ∈ Region.ready md ops listed, ∀ o, ops[i]? = some o → ∃ v k', Yst P ops S C o k v k' a ∧ anySt md Q n (listed.setIfInBounds i true) k' (a.put o.dst v)
end

section
variable {P : Program} {ops : Array Oper} {S : World → Prop} {C : Nat → World → Prop} {md : Region.Mode} {Q : Nat → Act → Prop}

theorem Yst.same {o : Oper} {k k' : Nat} {v : Value} {a a' : Act} (h : Yst P ops S C o k v k' a) (he : execOp a'.eval o = execOp a.eval o)
    (hw : Region.wanted o (yielded ops a'.tmps) = Region.wanted o (yielded ops a.tmps)) : Yst P ops S C o k v k' a' := by
  unfold Yst heldRun callRun at *
  rw [he, hw]
  exact h
/-- what is no call's stage does not hang on the stage -/
theorem Yst.stage {o : Oper} {k : Nat} {v : Value} {a : Act} (h : Yst P ops S C o k v k a) (j : Nat) : Yst P ops S C o j v j a := by
  rcases h with ⟨h1, h2, _⟩ | ⟨_, _, _, h4⟩ | ⟨h1, h2, _⟩
  · exact .inl ⟨h1, h2, rfl⟩
  · omega
  · exact .inr (.inr ⟨h1, h2, rfl⟩)
theorem Yst.up {o : Oper} {k k' : Nat} {v : Value} {a : Act} (h : Yst P ops S C o k v k' a) : k' = k ∨ k' = k + 1 := by
  rcases h with ⟨_, _, h⟩ | ⟨_, _, _, h⟩ | ⟨_, _, h⟩
  · exact .inl h
  · exact .inr h
  · exact .inl h
theorem Yst.quiet {o : Oper} {k k' : Nat} {v : Value} {a : Act} (h : Yst P ops S C o k v k' a) (hc : isCall o = false) : k' = k := by
  rcases h with ⟨_, _, h⟩ | ⟨_, h, _⟩ | ⟨_, _, h⟩
  · exact h
  · rw [hc] at h; cases h
  · exact h

theorem wpAny_of_st {Q' : Exit → Act → World → Prop} (hS : ∀ k w, C k w → S w) (hQ : ∀ k a w, C k w → Q k a → Q' .normal a w) :
    ∀ (n : Nat) (listed : Array Bool) (k : Nat) (a : Act) (w : World), C k w → anySt P ops S C md Q n listed k a → wpAny P md ops Q' n listed a w := by
  intro n
  induction n with
  | zero => intro listed k a w hw h; exact ⟨h.1, hQ k a w hw h.2⟩
  | succ n ih =>
    intro listed k a w hw h
    refine ⟨fun e => hQ k a w hw (h.1 e), fun i hi => ?_⟩
    obtain ⟨_, o, ho, _⟩ := mem_ready.1 hi
    obtain ⟨v, k', hy, hn⟩ := h.2 i hi o ho
    unfold wpOp
    simp only [ho]
    rcases hy with ⟨h1, h2, rfl⟩ | ⟨h1, _, h2, rfl⟩ | ⟨h1, rfl, rfl⟩
    · rw [if_pos h1]
      left
      unfold Oper.wp
      rcases h2 w (hS _ w hw) with e | ⟨e, rfl⟩
      · rw [e]; exact ih _ _ _ _ hw hn
      · rw [e]; exact ih _ _ _ _ hw hn
    · rw [if_pos h1]
      left
      obtain ⟨f, args, e, hc⟩ := h2 w hw
      unfold Oper.wp
      rw [e]
      refine Calls.mono hc ?_
      rintro e w' ⟨rfl, hw'⟩
      exact ih _ _ _ _ hw' hn
    · rw [if_neg (by rw [h1]; exact Bool.false_ne_true)]
      exact ih _ _ _ _ hw hn

theorem anySt_first {i : Nat} {oi : Oper} {v : Value} (hi : ops[i]? = some oi) (hsel : ∀ (j : Nat) (o : Oper) cs b, ops[j]? = some o → o.op ≠ .select cs b) :
    ∀ (n : Nat) (listed : Array Bool) (k k' : Nat) (a : Act),
      (∀ j oj, ops[j]? = some oj → j ≠ i → listed.getD j true = false → (∀ e ∈ oj.after, Region.binds md e = true → e.on ≠ i) → oi.apart ops oj = true) →
      (k' = k ∨ ∃ B : Nat → Bool, (∀ j, B j = true → listed.getD j true = false ∧ ∃ oj, ops[j]? = some oj ∧ ∃ e ∈ oj.after, Region.binds md e = true ∧ (e.on = i ∨ B e.on = true)) ∧
        (∀ j oj, ops[j]? = some oj → isCall oj = true → j ≠ i → listed.getD j true = false → B j = true)) →
      i ∈ Region.ready md ops listed → Yst P ops S C oi k v k' a → anySt P ops S C md Q n (listed.setIfInBounds i true) k' (a.put oi.dst v) → anySt P ops S C md Q (n + 1) listed k a := by
  intro n
  induction n with
  | zero =>
    intro listed k k' a _ _ hr hy H
    refine ⟨fun h => (by rw [h] at hr; cases hr), fun j hj o ho => ?_⟩
    by_cases hji : j = i
    · subst hji
      obtain rfl : oi = o := by rw [hi] at ho; exact Option.some.inj ho
      exact ⟨v, k', hy, H⟩
    · have := ready_mono hj hji
      rw [H.1] at this
      cases this
  | succ n ih =>
    intro listed k k' a hfree hB hr hy H
    refine ⟨fun h => (by rw [h] at hr; cases hr), fun j hj oj hoj => ?_⟩
    by_cases hji : j = i
    · subst hji
      obtain rfl : oi = oj := by rw [hi] at hoj; exact Option.some.inj hoj
      exact ⟨v, k', hy, H⟩
    · obtain ⟨u, k2, hy2, H2⟩ := H.2 j (ready_mono hj hji) oj hoj
      obtain ⟨hjun, oj', hoj', hall⟩ := mem_ready.1 hj
      obtain rfl : oj = oj' := by rw [hoj] at hoj'; exact Option.some.inj hoj'
      have hiun := (mem_ready.1 hr).1
      have hnot : ∀ e ∈ oj.after, Region.binds md e = true → e.on ≠ i := fun e he hb heq => by
        have h1 := hall e he hb
        rw [heq] at h1
        rcases Nat.lt_or_ge i listed.size with h' | h'
        · simp [h'] at hiun h1; rw [hiun] at h1; cases h1
        · simp [Array.getElem?_eq_none h'] at h1
      have hap := hfree j oj hoj hji hjun hnot
      obtain ⟨p1, p2, p3⟩ := Oper.apart_spec hap
      have hsi := fun cs b => hsel i oi cs b hi
      have hsj := fun cs b => hsel j oj cs b hoj
      have hyj : Yst P ops S C oj k' u k2 a := hy2.same (execOp_put oj hsj a oi.dst v p1).symm (wanted_put oj a oi.dst v p1).symm
      have hyi : Yst P ops S C oi k v k' (a.put oj.dst u) := hy.same (execOp_put oi hsi a oj.dst u p3) (wanted_put oi a oj.dst u p3)
      have hfree' : ∀ m om, ops[m]? = some om → m ≠ i → (listed.setIfInBounds j true).getD m true = false →
          (∀ e ∈ om.after, Region.binds md e = true → e.on ≠ i) → oi.apart ops om = true := fun m om hm hmi hun hno => by
        refine hfree m om hm hmi ?_ hno
        by_cases hjm : j = m
        · subst hjm; exact hjun
        · rw [getD_set_ne true hjm] at hun; exact hun
      have hr' := ready_mono hr (Ne.symm hji)
      rw [Array.setIfInBounds_comm _ _ (Ne.symm hji), Act.put_comm a v u p2] at H2
      rcases hB with rfl | ⟨B, b1, b2⟩
      · exact ⟨u, k2, hyj, ih (listed.setIfInBounds j true) k2 k2 _ hfree' (.inl rfl) hr' (hyi.stage k2) H2⟩
      · have hBj : B j = false := by
          by_cases hb : B j = true
          · obtain ⟨_, o', ho', e, he, hbe, hon⟩ := b1 j hb
            obtain rfl : oj = o' := by rw [hoj] at ho'; exact Option.some.inj ho'
            have h1 := hall e he hbe
            rcases hon with hon | hon
            · exact absurd hon (hnot e he hbe)
            · have h0 := (b1 _ hon).1
              rcases Nat.lt_or_ge e.on listed.size with h' | h'
              · simp [h'] at h0 h1; rw [h0] at h1; cases h1
              · simp [Array.getElem?_eq_none h'] at h1
          · simpa using hb
        have hnc : isCall oj = false := by
          by_cases hc : isCall oj = true
          · have := b2 j oj hoj hc hji hjun; rw [this] at hBj; cases hBj
          · simpa using hc
        obtain rfl := hyj.quiet hnc
        refine ⟨u, k, hyj.stage k, ih (listed.setIfInBounds j true) k _ _ hfree' (.inr ⟨B, fun m hm => ?_, fun m om hom hc hmi hun => ?_⟩) hr' hyi H2⟩
        · obtain ⟨c1, c2⟩ := b1 m hm
          refine ⟨?_, c2⟩
          rw [getD_set_ne true (by rintro rfl; rw [hm] at hBj; cases hBj)]
          exact c1
        · refine b2 m om hom hc hmi ?_
          by_cases hjm : j = m
          · subst hjm; exact hjun
          · rw [getD_set_ne true hjm] at hun; exact hun

/-- what waits for number i, directly or through others -/
def depList (md : Region.Mode) (ops : Array Oper) (i : Nat) : List Nat :=
  (List.range ops.size).foldl (fun B j => if (match ops[j]? with | some o => o.after.any fun e => Region.binds md e && (e.on == i || B.contains e.on) | none => false) then j :: B else B) []
def callAt (ops : Array Oper) (j : Nat) : Bool := match ops[j]? with | some o => isCall o | none => false
def chainAt (md : Region.Mode) (ops : Array Oper) (i : Nat) (B : List Nat) : Bool :=
  (B.all fun j => decide (i < j) && match ops[j]? with | some o => o.after.any fun e => Region.binds md e && (e.on == i || B.contains e.on) | none => false) &&
  ((List.range ops.size).all fun j => !(callAt ops j && decide (i < j)) || B.contains j)
def chainB (md : Region.Mode) (ops : Array Oper) : Bool := (List.range ops.size).all fun i => !callAt ops i || chainAt md ops i (depList md ops i)

theorem chainAt_spec {i : Nat} {B : List Nat} (h : chainAt md ops i B = true) :
    (∀ j, B.contains j = true → i < j ∧ ∃ oj, ops[j]? = some oj ∧ ∃ e ∈ oj.after, Region.binds md e = true ∧ (e.on = i ∨ B.contains e.on = true)) ∧
    (∀ j oj, ops[j]? = some oj → isCall oj = true → i < j → B.contains j = true) := by
  unfold chainAt at h
  rw [Bool.and_eq_true] at h
  obtain ⟨h1, h2⟩ := h
  constructor
  · intro j hj
    rw [List.all_eq_true] at h1
    have := h1 j (by simpa using hj)
    rw [Bool.and_eq_true] at this
    obtain ⟨g1, g2⟩ := this
    refine ⟨by simpa using g1, ?_⟩
    cases ho : ops[j]? with
    | none => rw [ho] at g2; cases g2
    | some oj =>
      rw [ho] at g2
      obtain ⟨e, he, hb⟩ := Array.any_eq_true'.1 g2
      simp only [Bool.and_eq_true, Bool.or_eq_true, beq_iff_eq] at hb
      exact ⟨oj, rfl, e, he, hb.1, hb.2⟩
  · intro j oj hoj hc hij
    rw [List.all_eq_true] at h2
    have := h2 j (List.mem_range.2 (Array.getElem?_eq_some_iff.1 hoj).1)
    have hca : callAt ops j = true := by unfold callAt; rw [hoj]; exact hc
    simp only [hca, hij, decide_true, Bool.and_self, Bool.not_true, Bool.false_or] at this
    exact this

theorem anySt_lex (hs : Region.noSelect ops = true) (hch : chainB md ops = true) : ∀ (l : List Oper) (m : Nat) (listed : Array Bool) (k : Nat) (a : Act), (∀ j, l[j]? = ops[m + j]?) →
    (∀ j, listed.getD j true = false → m ≤ j) → (∀ j, m ≤ j → j < ops.size → listed.getD j true = false) →
    Region.lexFrom md ops l.length m listed = true → wpSt P ops S C Q k l a → anySt P ops S C md Q l.length listed k a
  | [], _, _, _, _, _, _, _, hB, h => ⟨by simpa [Region.lexFrom] using hB, h⟩
  | o :: l, m, listed, k, a, hl, hlo, hhi, hB, h => by
    have h0 : ops[m]? = some o := by simpa using (hl 0).symm
    simp only [List.length_cons, Region.lexFrom, Bool.and_eq_true] at hB
    obtain ⟨⟨hr, hf⟩, hB'⟩ := hB
    obtain ⟨v, k', hy, hn⟩ := h
    have hlt : m < ops.size := (Array.getElem?_eq_some_iff.1 h0).1
    have hmz : m < listed.size := by
      rcases Nat.lt_or_ge m listed.size with h' | h'
      · exact h'
      · have := hhi m (Nat.le_refl _) hlt; simp [Array.getElem?_eq_none h'] at this
    refine anySt_first h0 (Region.noSelect_spec hs) l.length listed k k' a (Region.free_spec h0 hf) ?_ (by simpa using hr) hy
      (anySt_lex hs hch l (m + 1) _ k' _ (fun j => by have := hl (j + 1); simpa [Nat.add_assoc, Nat.add_comm 1 j] using this) ?_ ?_ hB' hn)
    · by_cases hc : isCall o = true
      · refine .inr ⟨fun j => (depList md ops m).contains j, ?_⟩
        have hca : callAt ops m = true := by unfold callAt; rw [h0]; exact hc
        have := (List.all_eq_true.1 hch) m (List.mem_range.2 hlt)
        rw [hca] at this
        obtain ⟨c1, c2⟩ := chainAt_spec (by simpa using this)
        refine ⟨fun j hj => ?_, fun j oj hoj hcj hjm hun => c2 j oj hoj hcj (by have := hlo j hun; omega)⟩
        obtain ⟨g1, oj, hoj, g2⟩ := c1 j hj
        exact ⟨hhi j (by omega) (Array.getElem?_eq_some_iff.1 hoj).1, oj, hoj, g2⟩
      · exact .inl (hy.quiet (by simpa using hc))
    · intro j hj
      by_cases hjm : m = j
      · subst hjm; simp [hmz] at hj
      · rw [getD_set_ne true hjm] at hj; have := hlo j hj; omega
    · intro j hj hjs
      rw [getD_set_ne true (by omega)]
      exact hhi j (by omega) hjs

/-- a region that draws its order, by one walk in the order of the text -/
theorem reg_st {id : Nat} {Q' : Exit → Act → World → Prop} {a : Act} {w : World} {l : List Oper} (S : World → Prop) (C : Nat → World → Prop) (hm : P.follows .mixedOrders = true)
    (hB : Region.lexB .any l.toArray = true) (hch : chainB .any l.toArray = true) (hS : ∀ k w, C k w → S w) (hC : C 0 w.drew)
    (h : wpSt P l.toArray S C (fun k a' => ∀ w', C k w' → Q' .normal a' w') 0 l a) : (Code.region id l.toArray true).wp P Q' a w := by
  simp only [Region.lexB, Bool.and_eq_true] at hB
  refine wp_region_any hm (wpAny_of_st (C := C) (S := S) (Q := fun k a' => ∀ w', C k w' → Q' .normal a' w') hS (fun k a w' hw' h => h w' hw') _ _ 0 _ _ hC ?_)
  have := anySt_lex (P := P) (S := S) (C := C) (md := .any) (Q := fun k a' => ∀ w', C k w' → Q' .normal a' w') hB.1 hch l 0 (Array.replicate l.toArray.size false) 0 a (by simp) (by simp) (by simp; intro j hj; simp [hj]) (by simpa using hB.2) h
  simpa using this
end

/-- a world that meets S -/
structure InS (S : World → Prop) where
  w : World
  h : S w

theorem notEnter_bind {P : Program} {α : Type} {s : Sem α} {k : α → Sem Next} {w w' : World} {f : FuncId} {args : Array Value} (h : ∀ x w, (k x).run P w ≠ .ok (.enter f args) w') : (s >>= k).run P w ≠ .ok (.enter f args) w' := by
  rw [Sem.run_bind]
  cases s.run P w with
  | ok x w1 => exact h x w1
  | halt x w1 => simp [Result.andThen]
theorem notEnter_value {P : Program} {v : Value} {w w' : World} {f : FuncId} {args : Array Value} : (pure (Next.value v) : Sem Next).run P w ≠ .ok (.enter f args) w' := by simp [Sem.run_pure]
theorem notEnter_builtin {P : Program} {b : Builtin} {ts : Array TypeId} {t : TypeId} {cs : Array Bool} {xs : Array Value} {w w' : World} {f : FuncId} {args : Array Value} (hb : (match b with | .print => true | .println => true | _ => false) = false) : (builtin b ts t cs xs).run P w ≠ .ok (.enter f args) w' := by
  have hv : ∀ (s : Sem Value), (do pure (Next.value (← s)) : Sem Next).run P w ≠ .ok (.enter f args) w' := fun s => notEnter_bind fun _ _ => notEnter_value
  cases b <;> simp only [builtin] <;> first | exact hv _ | (simp at hb; done) | (simp [Sem.run_pure]; done) | exact notEnter_bind (fun _ _ => notEnter_value) | (unfold stuck; simp; done) | (unfold unsupported; simp; done)
theorem notEnter {P : Program} {o : Oper} {ρ : Operand → Value} {w w' : World} {f : FuncId} {args : Array Value} (hc : isCall o = false) : (execOp ρ o).run P w ≠ .ok (.enter f args) w' := by
  have hv : ∀ (s : Sem Value), (do pure (Next.value (← s)) : Sem Next).run P w ≠ .ok (.enter f args) w' := fun s => notEnter_bind fun _ _ => notEnter_value
  have hu : ∀ (s : Sem Unit), (do s; pure Next.skip : Sem Next).run P w ≠ .ok (.enter f args) w' := fun s => notEnter_bind fun _ _ => by simp [Sem.run_pure]
  obtain ⟨dst, op, type, pos, after, guard⟩ := o
  cases op
  case call c =>
    obtain ⟨callee, xs, ts⟩ := c
    cases callee with
    | builtin b =>
      simp only [execOp, resolve, pure_bind, invoke]
      exact notEnter_builtin (by simpa [isCall] using hc)
    | value f => simp [isCall] at hc
    | invoke r m => simp [isCall] at hc
  case nilCheck x =>
    simp only [execOp]
    split
    · simp [runtimePanic]
    · simp [runtimePanic]
    · simp [runtimePanic]
    · split
      · simp [runtimePanic]
      · refine notEnter_bind fun _ _ => notEnter_bind fun _ _ => ?_
        split
        · exact notEnter_bind fun _ _ => notEnter_value
        · exact notEnter_value
      · exact notEnter_value
    · exact notEnter_value
  case recv t c b =>
    simp only [execOp]
    refine notEnter_bind fun x _ => ?_
    split
    · exact notEnter_bind fun _ _ => by simp [Sem.run_pure]
    · simp [stuck]
  case select cs b =>
    simp only [execOp]
    exact notEnter_bind fun _ _ => by simp [Sem.run_pure]
  case go c =>
    simp only [execOp]
    exact notEnter_bind fun _ _ => by simp [Sem.run_pure]
  case defer c =>
    simp only [execOp]
    exact notEnter_bind fun _ _ => by simp [Sem.run_pure]
  case pick c x y =>
    simp only [execOp]
    exact notEnter_bind fun _ _ => notEnter_value
  all_goals simp only [execOp]
  all_goals first
    | exact hv _
    | exact hu _
    | (simp [Sem.run_pure]; done)

section
variable {P : Program} {ops : Array Oper} {S : World → Prop} {C : Nat → World → Prop} {Q : Nat → Act → Prop} {k : Nat} {o : Oper} {rest : List Oper} {a : Act}
/-- one operation that is no call -/
theorem st_held (hc : isCall o = false) (h : ∀ K : Act → Prop, Shut (∀ a, wpSt P ops S C Q k rest a → K a) → wpQuiet P ops (fun w' => ∃ x : InS S, w' = x.w) K [o] a) : wpSt P ops S C Q k (o :: rest) a := by
  have h1 := h (wpSt P ops S C Q k rest) (fun _ h => h)
  unfold wpQuiet at h1
  split at h1
  · rename_i hw
    obtain ⟨v, h2, h3⟩ := h1
    refine ⟨v, k, .inl ⟨hw, fun w hS => ?_, rfl⟩, h3⟩
    have h4 := h2 w ⟨⟨w, hS⟩, rfl⟩
    unfold Oper.quietAt at h4
    generalize hr : (execOp a.eval o).run P w = r at h4
    cases r with
    | halt x w' => exact h4.elim
    | ok n w' =>
      cases n <;> simp only [Oper.quietUpon] at h4
      case value u => obtain ⟨rfl, rfl⟩ := h4; exact .inl rfl
      case skip => obtain ⟨rfl, rfl⟩ := h4; exact .inr ⟨rfl, rfl⟩
      case enter f args => exact absurd hr (notEnter hc)
  · rename_i hw
    exact ⟨undef, k, .inr (.inr ⟨by simpa using hw, rfl, rfl⟩), h1⟩
/-- an operation that is not carried out -/
theorem st_skip (hw : Region.wanted o (yielded ops a.tmps) = false) (h : wpSt P ops S C Q k rest (a.put o.dst undef)) : wpSt P ops S C Q k (o :: rest) a :=
  ⟨undef, k, .inr (.inr ⟨hw, rfl, rfl⟩), h⟩
/-- a call: from one stage to the next -/
theorem st_call {f : FuncId} {args : Array Value} (v : Value) (hw : Region.wanted o (yielded ops a.tmps) = true) (hc : isCall o = true) (hx : ∀ w, (execOp a.eval o).run P w = .ok (.enter f args) w)
    (hC : ∀ w, C k w → Calls P f args w (fun e w' => e = .returned v ∧ C (k + 1) w')) (h : wpSt P ops S C Q (k + 1) rest (a.put o.dst v)) : wpSt P ops S C Q k (o :: rest) a :=
  ⟨v, k + 1, .inr (.inl ⟨hw, hc, fun w hw' => ⟨f, args, hx w, hC w hw'⟩, rfl⟩), h⟩
theorem st_nil (h : Q k a) : wpSt P ops S C Q k [] a := h
end
end Go.Proofs.YtfdofkokiaapoaaDoor.W
end
section
/- Objects in memory that lie apart: what one of them does leaves the others as they are. No program in sight. -/
namespace Go.Proofs.YtfdofkokiaapoaaDoor.W
open Go.RowKit
set_option linter.unusedVariables false

/-- an object in memory: what is said of it, and the blocks on which that rests -/
structure Ob where
  P : World → Prop
  F : Nat → Prop
  here : ∀ w, P w → ∀ k, F k → k < w.heap.size
  loc : ∀ w w', P w → (∀ k, F k → w'.heap[k]? = w.heap[k]?) → P w'

/-- all these objects are there, apart from each other, in blocks from B on; below B nothing has changed since w0 -/
structure All (B : Nat) (w0 : World) (l : List Ob) (w : World) : Prop where
  P : ∀ o ∈ l, o.P w
  apart : l.Pairwise fun a b => ∀ k, a.F k → ¬ b.F k
  base : ∀ o ∈ l, ∀ k, o.F k → B ≤ k
  below : Below B w0 w
  le : B ≤ w.heap.size

theorem All.head {B : Nat} {w0 w : World} {o : Ob} {l : List Ob} (h : All B w0 (o :: l) w) : o.P w := h.P o (by simp)
theorem All.mid {B : Nat} {w0 w : World} {o : Ob} {l1 l2 : List Ob} (h : All B w0 (l1 ++ o :: l2) w) : o.P w := h.P o (by simp)
theorem All.start (w : World) : All w.heap.size w [] w := ⟨by simp, by simp, by simp, Below.refl _ _, Nat.le_refl _⟩

theorem All.still {B : Nat} {w0 w w' : World} {l : List Ob} (h : All B w0 l w) (k : Below w.heap.size w w') : All B w0 l w' :=
  ⟨fun o ho => o.loc w w' (h.P o ho) fun i hi => k.block i (o.here w (h.P o ho) i hi), h.apart, h.base, h.below.trans (k.mono h.le), Nat.le_trans h.le k.size⟩
theorem All.drew {B : Nat} {w0 w : World} {l : List Ob} (h : All B w0 l w) : All B w0 l w.drew := h.still ((Below.refl _ _).drew)
theorem All.drewN {B : Nat} {w0 w : World} {l : List Ob} (h : All B w0 l w) (n : Nat) : All B w0 l (w.drewN n) := h.still (Below.drewN (Below.refl _ _) n)
theorem All.alloc {B : Nat} {w0 w : World} {l : List Ob} (h : All B w0 l w) (o : Obj) : All B w0 l (w.alloc o) := h.still ((Below.refl _ _).alloc (Nat.le_refl _) _)

/-- one object acts -/
theorem All.step {B : Nat} {w0 w w' : World} {o o' : Ob} (l1 : List Ob) {l2 : List Ob} (h : All B w0 (l1 ++ o :: l2) w) (hp : o'.P w') (hc : Chg o.F w w') (hk : ∀ k, o'.F k → o.F k ∨ w.heap.size ≤ k) : All B w0 (l1 ++ o' :: l2) w' := by
  have ap := h.apart
  rw [List.pairwise_append] at ap
  obtain ⟨a1, a2, a3⟩ := ap
  rw [List.pairwise_cons] at a2
  have hB : ∀ k, o.F k → B ≤ k := h.base o (by simp)
  have other : ∀ x, x ∈ l1 ∨ x ∈ l2 → x.P w' ∧ (∀ k, x.F k → ¬ o'.F k) := by
    intro x hx
    have hxP : x.P w := h.P x (by rcases hx with hx | hx <;> simp [hx])
    have hxo : ∀ k, x.F k → ¬ o.F k := by
      rcases hx with hx | hx
      · exact a3 x hx o (by simp)
      · exact fun k hk ho => a2.1 x hx k ho hk
    refine ⟨x.loc w w' hxP fun k hk => hc.block k (x.here w hxP k hk) (hxo k hk), fun k hk ho' => ?_⟩
    rcases hk' : (‹∀ k, o'.F k → o.F k ∨ w.heap.size ≤ k› k ho') with h1 | h1
    · exact hxo k hk h1
    · have := x.here w hxP k hk; omega
  refine ⟨?_, ?_, ?_, ?_, Nat.le_trans h.le hc.size⟩
  · intro x hx
    rw [List.mem_append, List.mem_cons] at hx
    rcases hx with hx | rfl | hx
    · exact (other x (.inl hx)).1
    · exact hp
    · exact (other x (.inr hx)).1
  · rw [List.pairwise_append]
    refine ⟨a1, ?_, ?_⟩
    · rw [List.pairwise_cons]
      exact ⟨fun x hx k ho' hk => (other x (.inr hx)).2 k hk ho', a2.2⟩
    · intro x hx y hy
      rw [List.mem_cons] at hy
      rcases hy with rfl | hy
      · exact (other x (.inl hx)).2
      · exact a3 x hx y (by simp [hy])
  · intro x hx k hk'
    rw [List.mem_append, List.mem_cons] at hx
    rcases hx with hx | rfl | hx
    · exact h.base x (by simp [hx]) k hk'
    · rcases hk k hk' with h1 | h1
      · exact hB k h1
      · exact Nat.le_trans h.le h1
    · exact h.base x (by simp [hx]) k hk'
  · exact h.below.trans (hc.below h.le hB)

/-- a new object -/
theorem All.new {B : Nat} {w0 w w' : World} {o : Ob} {l : List Ob} (h : All B w0 l w) (hp : o.P w') (hb : Below w.heap.size w w') (hk : ∀ k, o.F k → w.heap.size ≤ k) : All B w0 (o :: l) w' := by
  have h' := h.still hb
  refine ⟨?_, ?_, ?_, h'.below, h'.le⟩
  · intro x hx
    rcases List.mem_cons.1 hx with rfl | hx
    · exact hp
    · exact h'.P x hx
  · rw [List.pairwise_cons]
    exact ⟨fun x hx k h1 h2 => by have := hk k h1; have := x.here w (h.P x hx) k h2; omega, h.apart⟩
  · intro x hx k h1
    rcases List.mem_cons.1 hx with rfl | hx
    · exact Nat.le_trans h.le (hk k h1)
    · exact h.base x hx k h1

theorem All.swap {B : Nat} {w0 w : World} {a b : Ob} {l : List Ob} (h : All B w0 (a :: b :: l) w) : All B w0 (b :: a :: l) w := by
  refine ⟨fun o ho => h.P o (by simp at ho ⊢; rcases ho with h | h | h <;> simp [h]), ?_, fun o ho => h.base o (by simp at ho ⊢; rcases ho with h | h | h <;> simp [h]), h.below, h.le⟩
  have := h.apart
  simp only [List.pairwise_cons, List.mem_cons] at this ⊢
  obtain ⟨h1, h2, h3⟩ := this
  refine ⟨?_, fun x hx => h1 x (.inr hx), h3⟩
  rintro x (rfl | hx)
  · exact fun k ha hb => h1 b (.inl rfl) k hb ha
  · exact h2 x hx
theorem All.tail {B : Nat} {w0 w : World} {a : Ob} {l : List Ob} (h : All B w0 (a :: l) w) : All B w0 l w :=
  ⟨fun o ho => h.P o (by simp [ho]), (List.pairwise_cons.1 h.apart).2, fun o ho => h.base o (by simp [ho]), h.below, h.le⟩

theorem All.sub {B : Nat} {w0 w : World} {l l' : List Ob} (h : All B w0 l w) (hs : l'.Sublist l) : All B w0 l' w :=
  ⟨fun o ho => h.P o (hs.subset ho), h.apart.sublist hs, fun o ho => h.base o (hs.subset ho), h.below, h.le⟩

/-- what a call has made, beside what was there -/
theorem All.after {B : Nat} {w0 w w' : World} {l1 l2 : List Ob} (h : All B w0 l1 w) (k : All w.heap.size w l2 w') : All B w0 (l2 ++ l1) w' := by
  have h' := h.still k.below
  refine ⟨?_, ?_, ?_, h'.below, h'.le⟩
  · intro o ho
    rcases List.mem_append.1 ho with ho | ho
    · exact k.P o ho
    · exact h'.P o ho
  · rw [List.pairwise_append]
    refine ⟨k.apart, h.apart, fun a ha b hb i h1 h2 => ?_⟩
    have := k.base a ha i h1
    have := b.here w (h.P b hb) i h2
    omega
  · intro o ho i hi
    rcases List.mem_append.1 ho with ho | ho
    · exact Nat.le_trans h.le (k.base o ho i hi)
    · exact h.base o ho i hi

/-- a slice that owns its row -/
def sl (e : TypeId) (size : Nat) (v : Value) (n : Nat) (xs : List Value) : Ob :=
  ⟨fun w => Own w e size v n xs, fun k => v.ownBlock = some k, fun w h k hk => own_lt h hk, fun w w' h k => own_kept h k⟩
/-- a block that is known whole -/
def bk (g : Nat) (cs : List Value) (t : TypeId) : Ob :=
  ⟨fun w => Blk w g cs t, fun k => k = g, fun w h k hk => hk ▸ h.lt, fun w w' h k => h.kept (k g rfl)⟩
def hcells (xs : List Int) : List Value := xs.map (Value.int .i64)
theorem hcells_append (xs : List Int) (x : Int) : hcells (xs ++ [x]) = hcells xs ++ [.int .i64 x] := by simp [hcells]
/-- a slice of numbers -/
abbrev gl (gv : Value) (xs : List Int) : Ob := sl 3 1 gv xs.length (hcells xs)

/-- a nil slice -/
theorem All.nil {B : Nat} {w0 w : World} {l : List Ob} (h : All B w0 l w) (e : TypeId) (size : Nat) : All B w0 (sl e size (.slice none 0 0) 0 [] :: l) w :=
  h.new (World.ownsRow_nil _ _ _ _) (Below.refl _ _) (by intro k hk; simp [sl, Value.ownBlock] at hk)
/-- a new block -/
theorem All.newBk {B : Nat} {w0 w : World} {l : List Ob} (h : All B w0 l w) (cs : List Value) (t : TypeId) : All B w0 (bk w.heap.size cs t :: l) (w.alloc (.cells cs.toArray t)) :=
  h.new (Blk.new w cs t) ((Below.refl _ _).alloc (Nat.le_refl _) _) (by intro k hk; have : k = w.heap.size := hk; omega)
/-- a cell of a block written -/
theorem All.setBk {B : Nat} {w0 w : World} (l1 : List Ob) {l2 : List Ob} {g : Nat} {cs : List Value} {t : TypeId} (h : All B w0 (l1 ++ bk g cs t :: l2) w) (j : Nat) (u : Value) : All B w0 (l1 ++ bk g (cs.set j u) t :: l2) (w.setCell ⟨g, j, none⟩ u) :=
  h.step l1 (o' := bk g (cs.set j u) t) (Blk.set h.mid j u) ((Chg.refl (bk g cs t).F w).setCell ⟨g, j, none⟩ (fun _ => (rfl : g = g)) u) (fun k hk => .inl hk)
end Go.Proofs.YtfdofkokiaapoaaDoor.W
end
