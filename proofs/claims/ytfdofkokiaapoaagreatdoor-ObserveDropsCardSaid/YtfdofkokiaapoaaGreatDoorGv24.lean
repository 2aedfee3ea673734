/- Texts joined: RegV Cls. -/
import Derived.Test.YtfdofkokiaapoaaGreatDoorGv4
import Derived.Test.YtfdofkokiaapoaaGreatDoorGv23
import Derived.Test.YtfdofkokiaapoaaGreatDoorGv15
import Derived.Deep.CutBlock
import Derived.Deep.DeepCutAuto
import Derived.Deep.RegionHeld3
section
/- As RegM; what the calls return is not known ahead: a stage is the list of what was returned so far. No program in sight. -/
namespace Go.Proofs.YtfdofkokiaapoaaGreatDoor.W.RV
open Go
open Go.Proofs.YtfdofkokiaapoaaGreatDoor.W
set_option linter.unusedVariables false

/-- what is known of a region's operations: the class of worlds at each stage, beside whatever objects were made; what the k-th call returns; what number i makes -/
structure Pl where
  S : World → Prop
  C : List Value → List Ob → World → Prop
  V : List Value → Value → Prop
  made : Nat → Nat → Value
  cs : Nat → List Value
  ty : Nat → TypeId

section
variable (P : Program) (ops : Array Oper) (L : Pl)

def madeRun (o : Oper) (a : Act) (mk : Nat → Value) (cs : List Value) (t : TypeId) : Prop := ∀ w, (execOp a.eval o).run P w = .ok (.value (mk w.heap.size)) (w.alloc (.cells cs.toArray t))
def callRunX (o : Oper) (a : Act) (k : List Value) : Prop :=
  (∃ v, L.V k v) ∧ ∀ X w, L.C k X w → ∃ f args, (execOp a.eval o).run P w = .ok (.enter f args) w ∧ Calls P f args w (fun e w' => ∃ v, e = .returned v ∧ L.V k v ∧ L.C (v :: k) X w')

def Ok4 (o : Oper) (i : Nat) (k : List Value) (a : Act) : Prop := Region.wanted o (yielded ops a.tmps) = true →
  (kindOf o = 0 → ∃ v, heldRun P L.S o a v) ∧ (kindOf o = 1 → callRunX P L o a k) ∧ (kindOf o = 2 → madeRun P o a (L.made i) (L.cs i) (L.ty i))
def Out4 (o : Oper) (i : Nat) (k : List Value) (a : Act) (k' : List Value) (D : List Ob) (v : Value) : Prop :=
  (Region.wanted o (yielded ops a.tmps) = false ∧ k' = k ∧ D = [] ∧ v = undef) ∨
  (Region.wanted o (yielded ops a.tmps) = true ∧ ((kindOf o = 0 ∧ heldRun P L.S o a v ∧ k' = k ∧ D = []) ∨ (kindOf o = 1 ∧ L.V k v ∧ k' = v :: k ∧ D = []) ∨
    (kindOf o = 2 ∧ k' = k ∧ ∃ g, v = L.made i g ∧ D = [bk g (L.cs i) (L.ty i)])))
def Step4 (o : Oper) (i : Nat) (k : List Value) (X : List Ob) (a : Act) (K : List Value → List Ob → Act → Prop) : Prop :=
  Ok4 P ops L o i k a ∧ ∀ k' D v, Out4 P ops L o i k a k' D v → K k' (D ++ X) (a.put o.dst v)

/-- the walk in the order of the text, over the first operations -/
def wp4 (Q : List Value → List Ob → Act → Prop) : Nat → List Value → List Ob → List Oper → Act → Prop
  | _, k, X, [], a => Q k X a
  | i, k, X, o :: rest, a => Step4 P ops L o i k X a (fun k' X' a' => wp4 Q (i + 1) k' X' rest a')

def any4 (md : Region.Mode) (m : Nat) (Q : Array Bool → List Value → List Ob → Act → Prop) : Nat → Array Bool → List Value → List Ob → Act → Prop
  | 0, listed, k, X, a => (∀ j ∈ Region.ready md ops listed, m ≤ j) ∧ Q listed k X a
  | n + 1, listed, k, X, a => Region.ready md ops listed ≠ [] ∧ ∀ i ∈ Region.ready md ops listed, i < m ∧ ∀ o, ops[i]? = some o → Step4 P ops L o i k X a (fun k' X' a' => any4 md m Q n (listed.setIfInBounds i true) k' X' a')
end

section
variable {P : Program} {ops : Array Oper} {L : Pl} {md : Region.Mode} {m : Nat} {Q : Array Bool → List Value → List Ob → Act → Prop}

theorem Ok4.same {o : Oper} {i : Nat} {k : List Value} {a a' : Act} (h : Ok4 P ops L o i k a) (he : execOp a'.eval o = execOp a.eval o) (hw : Region.wanted o (yielded ops a'.tmps) = Region.wanted o (yielded ops a.tmps)) : Ok4 P ops L o i k a' := by
  unfold Ok4 heldRun callRunX madeRun at *
  rw [he, hw]
  exact h
theorem Out4.same {o : Oper} {i : Nat} {k k' : List Value} {D : List Ob} {v : Value} {a a' : Act} (h : Out4 P ops L o i k a k' D v) (he : execOp a'.eval o = execOp a.eval o) (hw : Region.wanted o (yielded ops a'.tmps) = Region.wanted o (yielded ops a.tmps)) : Out4 P ops L o i k a' k' D v := by
  unfold Out4 heldRun at *
  rw [he, hw]
  exact h
theorem Ok4.stage {o : Oper} {i : Nat} {k : List Value} {a : Act} (hc : isCall o = false) (h : Ok4 P ops L o i k a) (j : List Value) : Ok4 P ops L o i j a := fun hw =>
  ⟨(h hw).1, fun e => absurd e (kind_call hc), (h hw).2.2⟩
theorem Out4.stage {o : Oper} {i : Nat} {k k' : List Value} {D : List Ob} {v : Value} {a : Act} (hc : isCall o = false) (h : Out4 P ops L o i k a k' D v) (j : List Value) : k' = k ∧ Out4 P ops L o i j a j D v := by
  rcases h with ⟨h1, h2, h3⟩ | ⟨h1, ⟨h2, h3, h4, h5⟩ | ⟨h2, _⟩ | ⟨h2, h3, h4⟩⟩
  · exact ⟨h2, .inl ⟨h1, rfl, h3⟩⟩
  · exact ⟨h4, .inr ⟨h1, .inl ⟨h2, h3, rfl, h5⟩⟩⟩
  · exact absurd h2 (kind_call hc)
  · exact ⟨h3, .inr ⟨h1, .inr (.inr ⟨h2, rfl, h4⟩)⟩⟩
theorem Ok4.out {o : Oper} {i : Nat} {k : List Value} {a : Act} (h : Ok4 P ops L o i k a) : ∃ k' D v, Out4 P ops L o i k a k' D v := by
  cases hw : Region.wanted o (yielded ops a.tmps) with
  | false => exact ⟨k, [], undef, .inl ⟨hw, rfl, rfl, rfl⟩⟩
  | true =>
    rcases kind_three o with e | e | e
    · obtain ⟨v, hv⟩ := (h hw).1 e
      exact ⟨k, [], v, .inr ⟨hw, .inl ⟨e, hv, rfl, rfl⟩⟩⟩
    · obtain ⟨⟨v, hv⟩, _⟩ := (h hw).2.1 e
      exact ⟨v :: k, [], v, .inr ⟨hw, .inr (.inl ⟨e, hv, rfl, rfl⟩)⟩⟩
    · exact ⟨k, _, _, .inr ⟨hw, .inr (.inr ⟨e, rfl, 0, rfl, rfl⟩)⟩⟩

/-- objects in another order -/
theorem any4_perm (hP : ∀ listed k X Y a, X.Perm Y → Q listed k X a → Q listed k Y a) : ∀ (n : Nat) (listed : Array Bool) (k : List Value) (X Y : List Ob) (a : Act), X.Perm Y → any4 P ops L md m Q n listed k X a → any4 P ops L md m Q n listed k Y a := by
  intro n
  induction n with
  | zero => intro listed k X Y a hp h; exact ⟨h.1, hP _ _ _ _ _ hp h.2⟩
  | succ n ih =>
    intro listed k X Y a hp h
    refine ⟨h.1, fun i hi => ⟨(h.2 i hi).1, fun o ho => ?_⟩⟩
    obtain ⟨h1, h2⟩ := (h.2 i hi).2 o ho
    exact ⟨h1, fun k' D v hO => ih _ _ _ _ _ (List.Perm.append_left D hp) (h2 k' D v hO)⟩

theorem wpAny_of_any4 {t : Nat} {Q' : Exit → Act → World → Prop} (hS : ∀ k X w, L.C k X w → L.S w) (hM : ∀ k X w cs ty, L.C k X w → L.C k (bk w.heap.size cs ty :: X) (w.alloc (.cells cs.toArray ty)))
    (hQ : ∀ listed k X a w, L.C k X w → Q listed k X a → wpAny P md ops Q' t listed a w) :
    ∀ (n : Nat) (listed : Array Bool) (k : List Value) (X : List Ob) (a : Act) (w : World), L.C k X w → any4 P ops L md m Q n listed k X a → wpAny P md ops Q' (n + t) listed a w := by
  intro n
  induction n with
  | zero => intro listed k X a w hw h; rw [Nat.zero_add]; exact hQ _ _ _ _ _ hw h.2
  | succ n ih =>
    intro listed k X a w hw h
    rw [show n + 1 + t = (n + t) + 1 by omega]
    refine ⟨fun e => absurd e h.1, fun i hi => ?_⟩
    obtain ⟨_, o, ho, _⟩ := mem_ready.1 hi
    obtain ⟨hok, hn⟩ := (h.2 i hi).2 o ho
    unfold wpOp
    simp only [ho]
    cases hwt : Region.wanted o (yielded ops a.tmps) with
    | false =>
      simp only [Bool.false_eq_true, if_false]
      exact ih _ _ _ _ _ hw (hn k [] undef (.inl ⟨hwt, rfl, rfl, rfl⟩))
    | true =>
      simp only [if_true]
      left
      obtain ⟨o1, o2, o3⟩ := hok hwt
      unfold Oper.wp
      rcases kind_three o with e | e | e
      · obtain ⟨v, hv⟩ := o1 e
        have hk := hn k [] v (.inr ⟨hwt, .inl ⟨e, hv, rfl, rfl⟩⟩)
        rcases hv w (hS _ _ _ hw) with r | ⟨r, rfl⟩
        · rw [r]; exact ih _ _ _ _ _ hw hk
        · rw [r]; exact ih _ _ _ _ _ hw hk
      · obtain ⟨f, args, r, hc⟩ := (o2 e).2 X w hw
        rw [r]
        refine Calls.mono hc ?_
        rintro e2 w' ⟨v, rfl, hv, hw'⟩
        exact ih _ _ _ _ _ hw' (hn (v :: k) [] v (.inr ⟨hwt, .inr (.inl ⟨e, hv, rfl, rfl⟩)⟩))
      · have r := o3 e w
        have hk := hn k [bk w.heap.size (L.cs i) (L.ty i)] (L.made i w.heap.size) (.inr ⟨hwt, .inr (.inr ⟨e, rfl, w.heap.size, rfl, rfl⟩)⟩)
        rw [r]
        exact ih _ _ _ _ _ (hM _ _ _ _ _ hw) hk

theorem any4_first (hP : ∀ listed k X Y a, X.Perm Y → Q listed k X a → Q listed k Y a) {i : Nat} {oi : Oper} (hi : ops[i]? = some oi) (him : i < m) (hsel : ∀ (j : Nat) (o : Oper) cs b, ops[j]? = some o → o.op ≠ .select cs b) :
    ∀ (n : Nat) (listed : Array Bool) (k : List Value) (X : List Ob) (a : Act),
      (∀ j oj, ops[j]? = some oj → j ≠ i → listed.getD j true = false → (∀ e ∈ oj.after, Region.binds md e = true → e.on ≠ i) → oi.apart ops oj = true) →
      (∃ B : Nat → Bool, (∀ j, B j = true → listed.getD j true = false ∧ ∃ oj, ops[j]? = some oj ∧ ∃ e ∈ oj.after, Region.binds md e = true ∧ (e.on = i ∨ B e.on = true)) ∧
        (isCall oi = true → ∀ j oj, ops[j]? = some oj → isCall oj = true → j ≠ i → listed.getD j true = false → B j = true) ∧ (∀ j oj, ops[j]? = some oj → m ≤ j → B j = true)) →
      i ∈ Region.ready md ops listed → Step4 P ops L oi i k X a (fun k' X' a' => any4 P ops L md m Q n (listed.setIfInBounds i true) k' X' a') → any4 P ops L md m Q (n + 1) listed k X a := by
  have notB : ∀ (listed : Array Bool) (B : Nat → Bool), (∀ j, B j = true → listed.getD j true = false ∧ ∃ oj, ops[j]? = some oj ∧ ∃ e ∈ oj.after, Region.binds md e = true ∧ (e.on = i ∨ B e.on = true)) →
      i ∈ Region.ready md ops listed → ∀ j, j ∈ Region.ready md ops listed → (B j = false ∧ ∀ oj, ops[j]? = some oj → ∀ e ∈ oj.after, Region.binds md e = true → e.on ≠ i) := by
    intro listed B b1 hr j hj
    obtain ⟨hjun, oj, hoj, hall⟩ := mem_ready.1 hj
    have hiun := (mem_ready.1 hr).1
    have hnot : ∀ e ∈ oj.after, Region.binds md e = true → e.on ≠ i := fun e he hb heq => by
      have h1 := hall e he hb
      rw [heq] at h1
      rcases Nat.lt_or_ge i listed.size with h' | h'
      · simp [h'] at hiun h1; rw [hiun] at h1; cases h1
      · simp [Array.getElem?_eq_none h'] at h1
    refine ⟨?_, fun oj' hoj' => ?_⟩
    · by_cases hb : B j = true
      · obtain ⟨_, o', ho', e, he, hbe, hon⟩ := b1 j hb
        obtain rfl : oj = o' := by rw [hoj] at ho'; exact Option.some.inj ho'
        have h1 := hall e he hbe
        rcases hon with hon | hon
        · exact absurd hon (hnot e he hbe)
        · have h0 := (b1 _ hon).1
          rcases Nat.lt_or_ge e.on listed.size with h' | h'
          · simp [h'] at h0 h1; rw [h0] at h1; cases h1
          · simp [Array.getElem?_eq_none h'] at h1
      · simpa using hb
    · obtain rfl : oj = oj' := by rw [hoj] at hoj'; exact Option.some.inj hoj'
      exact hnot
  intro n
  induction n with
  | zero =>
    intro listed k X a _ ⟨B, b1, _, b3⟩ hr ⟨hok, H⟩
    refine ⟨fun h => (by rw [h] at hr; cases hr), fun j hj => ?_⟩
    by_cases hji : j = i
    · subst hji
      exact ⟨him, fun o ho => by obtain rfl : oi = o := by rw [hi] at ho; exact Option.some.inj ho
                                 exact ⟨hok, H⟩⟩
    · obtain ⟨k', D, v, hO⟩ := hok.out
      have h1 := (H k' D v hO).1 j (ready_mono hj hji)
      obtain ⟨_, oj, hoj, _⟩ := mem_ready.1 hj
      have h2 := b3 j oj hoj h1
      rw [(notB listed B b1 hr j hj).1] at h2
      cases h2
  | succ n ih =>
    intro listed k X a hfree ⟨B, b1, b2, b3⟩ hr ⟨hok, H⟩
    refine ⟨fun h => (by rw [h] at hr; cases hr), fun j hj => ?_⟩
    by_cases hji : j = i
    · subst hji
      exact ⟨him, fun o ho => by obtain rfl : oi = o := by rw [hi] at ho; exact Option.some.inj ho
                                 exact ⟨hok, H⟩⟩
    · obtain ⟨hBj, hnot'⟩ := notB listed B b1 hr j hj
      have hjm : j < m := by
        rcases Nat.lt_or_ge j m with h' | h'
        · exact h'
        · obtain ⟨_, oj, hoj, _⟩ := mem_ready.1 hj
          have := b3 j oj hoj h'
          rw [hBj] at this
          cases this
      refine ⟨hjm, fun oj hoj => ?_⟩
      have hnot := hnot' oj hoj
      have hjun := (mem_ready.1 hj).1
      have hap := hfree j oj hoj hji hjun hnot
      obtain ⟨p1, p2, p3⟩ := Oper.apart_spec hap
      have hsi := fun cs b => hsel i oi cs b hi
      have hsj := fun cs b => hsel j oj cs b hoj
      have hnc : isCall oi = true → isCall oj = false := fun hc => by
        by_cases hcj : isCall oj = true
        · have := b2 hc j oj hoj hcj hji hjun
          rw [hBj] at this
          cases this
        · simpa using hcj
      have hfree' : ∀ m om, ops[m]? = some om → m ≠ i → (listed.setIfInBounds j true).getD m true = false →
          (∀ e ∈ om.after, Region.binds md e = true → e.on ≠ i) → oi.apart ops om = true := fun m om hm hmi hun hno => by
        refine hfree m om hm hmi ?_ hno
        by_cases hjm : j = m
        · subst hjm; exact hjun
        · rw [getD_set_ne true hjm] at hun; exact hun
      have hr' := ready_mono hr (Ne.symm hji)
      -- what is known of j behind any outcome of i
      have hj2 : ∀ k' D v, Out4 P ops L oi i k a k' D v → Step4 P ops L oj j k' (D ++ X) (a.put oi.dst v) (fun k'' X'' a'' => any4 P ops L md m Q n ((listed.setIfInBounds i true).setIfInBounds j true) k'' X'' a'') :=
        fun k' D v hO => ((H k' D v hO).2 j (ready_mono hj hji)).2 oj hoj
      have hsame : ∀ v, execOp a.eval oj = execOp (a.put oi.dst v).eval oj ∧ Region.wanted oj (yielded ops a.tmps) = Region.wanted oj (yielded ops (a.put oi.dst v).tmps) := fun v => ⟨(execOp_put oj hsj a oi.dst v p1).symm, (wanted_put oj a oi.dst v p1).symm⟩
      have hokj : Ok4 P ops L oj j k a := by
        obtain ⟨k', D, v, hO⟩ := hok.out
        have h1 := (hj2 k' D v hO).1.same (hsame v).1 (hsame v).2
        by_cases hc : isCall oi = true
        · exact h1.stage (hnc hc) k
        · obtain ⟨rfl, _⟩ := hO.stage (by simpa using hc) []
          exact h1
      refine ⟨hokj, fun kj Dj u hOj => ?_⟩
      have hsi2 : execOp (a.put oj.dst u).eval oi = execOp a.eval oi := execOp_put oi hsi a oj.dst u p3
      have hwi2 : Region.wanted oi (yielded ops (a.put oj.dst u).tmps) = Region.wanted oi (yielded ops a.tmps) := wanted_put oi a oj.dst u p3
      have hstage : isCall oi = true → kj = k := fun hc => (hOj.stage (hnc hc) []).1
      have hoki : Ok4 P ops L oi i kj (a.put oj.dst u) := by
        by_cases hc : isCall oi = true
        · rw [hstage hc]; exact hok.same hsi2 hwi2
        · exact (hok.same hsi2 hwi2).stage (by simpa using hc) kj
      refine ih (listed.setIfInBounds j true) kj (Dj ++ X) (a.put oj.dst u) hfree' ⟨B, fun m hm => ?_, fun hc m om hom hcm hmi hun => ?_, b3⟩ hr' ⟨hoki, fun ki Di v hOi => ?_⟩
      · obtain ⟨c1, c2⟩ := b1 m hm
        refine ⟨?_, c2⟩
        rw [getD_set_ne true (by rintro rfl; rw [hm] at hBj; cases hBj)]
        exact c1
      · refine b2 hc m om hom hcm hmi ?_
        by_cases hjm : j = m
        · subst hjm; exact hjun
        · rw [getD_set_ne true hjm] at hun; exact hun
      · have hOi' := hOi.same hsi2.symm hwi2.symm
        by_cases hc : isCall oi = true
        · obtain rfl := hstage hc
          have h3 := (hj2 ki Di v hOi').2
          obtain ⟨_, h4⟩ := (hOj.same (a' := a.put oi.dst v) (hsame v).1.symm (hsame v).2.symm).stage (hnc hc) ki
          have h5 := h3 ki Dj u h4
          rw [Array.setIfInBounds_comm _ _ (Ne.symm hji), Act.put_comm a v u p2] at h5
          refine any4_perm hP _ _ _ _ _ _ ?_ h5
          rw [← List.append_assoc, ← List.append_assoc]
          exact List.Perm.append_right X List.perm_append_comm
        · obtain ⟨rfl, h4⟩ := hOi'.stage (by simpa using hc) k
          have h3 := (hj2 k Di v h4).2
          have h5 := h3 ki Dj u (hOj.same (a' := a.put oi.dst v) (hsame v).1.symm (hsame v).2.symm)
          rw [Array.setIfInBounds_comm _ _ (Ne.symm hji), Act.put_comm a v u p2] at h5
          refine any4_perm hP _ _ _ _ _ _ ?_ h5
          rw [← List.append_assoc, ← List.append_assoc]
          exact List.Perm.append_right X List.perm_append_comm

theorem any4_lex {t : Nat} {Q0 : List Value → List Ob → Act → Prop} (hP : ∀ listed k X Y a, X.Perm Y → Q listed k X a → Q listed k Y a) (hs : Region.noSelect ops = true) (hb : ((List.range m).all fun i => block4 md ops m i (depList md ops i)) = true)
    (hQ : ∀ listed k X a, tail4 md ops t m listed = true → Q0 k X a → Q listed k X a) :
    ∀ (l : List Oper) (i : Nat) (listed : Array Bool) (k : List Value) (X : List Ob) (a : Act), i + l.length = m → (∀ j, j < l.length → l[j]? = ops[i + j]?) →
    (∀ j, listed.getD j true = false → i ≤ j) → (∀ j, i ≤ j → j < ops.size → listed.getD j true = false) →
    lex4 md ops m t l.length i listed = true → wp4 P ops L Q0 i k X l a → any4 P ops L md m Q l.length listed k X a
  | [], i, listed, k, X, a, _, _, _, _, hB, h => by
    simp only [List.length_nil, lex4, Bool.and_eq_true, List.all_eq_true, decide_eq_true_eq] at hB
    exact ⟨hB.1, hQ _ _ _ _ hB.2 h⟩
  | o :: l, i, listed, k, X, a, him, hl, hlo, hhi, hB, h => by
    have h0 : ops[i]? = some o := by simpa using (hl 0 (by simp)).symm
    simp only [List.length_cons, lex4, Bool.and_eq_true] at hB
    obtain ⟨⟨hr, hf⟩, hB'⟩ := hB
    have hlt : i < ops.size := (Array.getElem?_eq_some_iff.1 h0).1
    have hil : i < m := by simp at him; omega
    have hmz : i < listed.size := by
      rcases Nat.lt_or_ge i listed.size with h' | h'
      · exact h'
      · have := hhi i (Nat.le_refl _) hlt; simp [Array.getElem?_eq_none h'] at this
    obtain ⟨c1, c2, c3⟩ := block4_spec ((List.all_eq_true.1 hb) i (List.mem_range.2 hil))
    refine any4_first hP h0 hil (Region.noSelect_spec hs) l.length listed k X a (Region.free_spec h0 hf) ⟨fun j => (depList md ops i).contains j, fun j hj => ?_, fun hc j oj hoj hcj hji hun => c2 (by unfold callAt; rw [h0]; exact hc) j oj hoj hcj (by have := hlo j hun; omega), c3⟩ (by simpa using hr) ⟨h.1, fun k' D v hO => ?_⟩
    · obtain ⟨g1, oj, hoj, g2⟩ := c1 j hj
      exact ⟨hhi j (by omega) (Array.getElem?_eq_some_iff.1 hoj).1, oj, hoj, g2⟩
    · refine any4_lex hP hs hb hQ l (i + 1) _ k' _ _ (by simp at him; omega) (fun j hj => by have := hl (j + 1) (by simpa using hj); simpa [Nat.add_assoc, Nat.add_comm 1 j] using this) ?_ ?_ hB' (h.2 k' D v hO)
      · intro j hj
        by_cases hjm : i = j
        · subst hjm; simp [hmz] at hj
        · rw [getD_set_ne true hjm] at hj; have := hlo j hj; omega
      · intro j hj hjs
        rw [getD_set_ne true (by omega)]
        exact hhi j (by omega) hjs

/-- a region that draws its order: its first operations in the order of the text, then its tail -/
theorem reg_m {id : Nat} {Q' : Exit → Act → World → Prop} {a : Act} {w : World} {l : List Oper} (L : Pl) (m : Nat) (hm : P.follows .mixedOrders = true) (hB : all4 .any l.toArray m (l.length - m) = true)
    (hS : ∀ k X w, L.C k X w → L.S w) (hM : ∀ k X w cs ty, L.C k X w → L.C k (bk w.heap.size cs ty :: X) (w.alloc (.cells cs.toArray ty))) (hP : ∀ k X Y w, X.Perm Y → L.C k X w → L.C k Y w) (hC : L.C [] [] w.drew)
    (h : wp4 P l.toArray L (fun k X a' => ∀ w', L.C k X w' → wpList P l.toArray Q' (l.drop m) a' w') 0 [] [] (l.take m) a) : (Code.region id l.toArray true).wp P Q' a w := by
  simp only [all4, Bool.and_eq_true, decide_eq_true_eq] at hB
  obtain ⟨⟨⟨hs, hlx⟩, hb⟩, hsz⟩ := hB
  have hml : m ≤ l.length := by simp at hsz; omega
  have htk : (l.take m).length = m := by simp [hml]
  refine wp_region_any hm ?_
  have h1 := any4_lex (P := P) (L := L) (md := .any) (m := m) (t := l.length - m) (Q := fun listed k X a' => ∀ w', L.C k X w' → wpAny P .any l.toArray Q' (l.length - m) listed a' w')
    (fun listed k X Y a hp hq w' hw' => hq w' (hP _ _ _ _ hp.symm hw')) hs hb
    (fun listed k X a ht hq w' hw' => by
      have := wpAny_tail (P := P) (md := .any) (ops := l.toArray) (Q' := Q') (l.drop m) m listed a w' (fun j => by simp) (by simpa using ht) (hq w' hw')
      simpa using this)
    (l.take m) 0 (Array.replicate l.toArray.size false) [] [] a (by rw [htk]; omega) (fun j hj => by rw [List.getElem?_take]; simp at hj ⊢; omega) (by simp) (by simp; intro j hj; simp [hj]) (by rw [htk]; exact hlx) h
  have h2 := wpAny_of_any4 (Q' := Q') hS hM (fun listed k X a w' hw' hq => hq w' hw') _ _ [] [] a _ hC h1
  have e : (l.take m).length + (l.length - m) = l.toArray.size := by rw [htk]; simp; omega
  rw [e] at h2
  exact h2
end

section
variable {P : Program} {ops : Array Oper} {L : Pl} {Q : List Value → List Ob → Act → Prop} {i : Nat} {k : List Value} {X : List Ob} {o : Oper} {rest : List Oper} {a : Act}
theorem held_one {S : World → Prop} [hne : Nonempty (InS S)] {v v' : Value} (h : heldRun P S o a v) (h' : heldRun P S o a v') : v = v' := by
  obtain ⟨x⟩ := hne
  rcases h x.w x.h with e | ⟨e, rfl⟩ <;> rcases h' x.w x.h with e' | ⟨e', rfl⟩
  · rw [e] at e'; simpa using e'
  · rw [e] at e'; simp at e'
  · rw [e] at e'; simp at e'
  · rfl
theorem m_skip (hw : Region.wanted o (yielded ops a.tmps) = false) (h : wp4 P ops L Q (i + 1) k X rest (a.put o.dst undef)) : wp4 P ops L Q i k X (o :: rest) a := by
  refine ⟨fun h' => absurd (hw.symm.trans h') (by decide), fun k' D v hO => ?_⟩
  rcases hO with ⟨_, rfl, rfl, rfl⟩ | ⟨h', _⟩
  · exact h
  · rw [hw] at h'; cases h'
theorem m_held [hne : Nonempty (InS L.S)] (hk : kindOf o = 0) (hc : isCall o = false) (h : ∀ K : Act → Prop, Shut (∀ a, wp4 P ops L Q (i + 1) k X rest a → K a) → wpQuiet P ops (fun w' => ∃ x : InS L.S, w' = x.w) K [o] a) : wp4 P ops L Q i k X (o :: rest) a := by
  have h1 := h (wp4 P ops L Q (i + 1) k X rest) (fun _ h => h)
  unfold wpQuiet at h1
  split at h1
  · rename_i hw
    obtain ⟨v, h2, h3⟩ := h1
    have hv : heldRun P L.S o a v := fun w hS => by
      have h4 := h2 w ⟨⟨w, hS⟩, rfl⟩
      unfold Oper.quietAt at h4
      generalize hr : (execOp a.eval o).run P w = r at h4
      cases r with
      | halt x w' => exact h4.elim
      | ok n w' =>
        cases n <;> simp only [Oper.quietUpon] at h4
        case value u => obtain ⟨rfl, rfl⟩ := h4; exact .inl rfl
        case skip => obtain ⟨rfl, rfl⟩ := h4; exact .inr ⟨rfl, rfl⟩
        case enter f args => exact absurd hr (notEnter hc)
    refine ⟨fun _ => ⟨fun _ => ⟨v, hv⟩, fun e => absurd (hk.symm.trans e) (by decide), fun e => absurd (hk.symm.trans e) (by decide)⟩, fun k' D v' hO => ?_⟩
    rcases hO with ⟨h', _⟩ | ⟨_, ⟨_, hv', rfl, rfl⟩ | ⟨e, _⟩ | ⟨e, _⟩⟩
    · rw [hw] at h'; cases h'
    · rw [← held_one hv hv']; exact h3
    · rw [hk] at e; cases e
    · rw [hk] at e; cases e
  · rename_i hw
    exact m_skip (by simpa using hw) h1
theorem m_call {f : FuncId} {args : Array Value} (hw : Region.wanted o (yielded ops a.tmps) = true) (hk : kindOf o = 1) (hx : ∀ w, (execOp a.eval o).run P w = .ok (.enter f args) w) (hV : ∃ v, L.V k v)
    (hC : ∀ X w, L.C k X w → Calls P f args w (fun e w' => ∃ v, e = .returned v ∧ L.V k v ∧ L.C (v :: k) X w')) (h : ∀ v, L.V k v → wp4 P ops L Q (i + 1) (v :: k) X rest (a.put o.dst v)) : wp4 P ops L Q i k X (o :: rest) a := by
  refine ⟨fun _ => ⟨fun e => absurd (hk.symm.trans e) (by decide), fun _ => ⟨hV, fun X w hw' => ⟨f, args, hx w, hC X w hw'⟩⟩, fun e => absurd (hk.symm.trans e) (by decide)⟩, fun k' D v' hO => ?_⟩
  rcases hO with ⟨h', _⟩ | ⟨_, ⟨e, _⟩ | ⟨_, hv, rfl, rfl⟩ | ⟨e, _⟩⟩
  · rw [hw] at h'; cases h'
  · rw [hk] at e; cases e
  · exact h _ hv
  · rw [hk] at e; cases e
theorem m_made (mk : Nat → Value) (cs : List Value) (ty : TypeId) (e1 : L.made i = mk) (e2 : L.cs i = cs) (e3 : L.ty i = ty) (hw : Region.wanted o (yielded ops a.tmps) = true) (hk : kindOf o = 2)
    (hx : ∀ w, (execOp a.eval o).run P w = .ok (.value (mk w.heap.size)) (w.alloc (.cells cs.toArray ty))) (h : ∀ g, wp4 P ops L Q (i + 1) k (bk g cs ty :: X) rest (a.put o.dst (mk g))) : wp4 P ops L Q i k X (o :: rest) a := by
  subst e1 e2 e3
  refine ⟨fun _ => ⟨fun e => absurd (hk.symm.trans e) (by decide), fun e => absurd (hk.symm.trans e) (by decide), fun _ => hx⟩, fun k' D v' hO => ?_⟩
  rcases hO with ⟨h', _⟩ | ⟨_, ⟨e, _⟩ | ⟨e, _⟩ | ⟨_, rfl, g, rfl, rfl⟩⟩
  · rw [hw] at h'; cases h'
  · rw [hk] at e; cases e
  · rw [hk] at e; cases e
  · exact h g
theorem m_nil (h : Q k X a) : wp4 P ops L Q i k X [] a := h
end

/-- worlds in which these objects lie apart, at one stage or another -/
def SomeAll (B : Nat) (w0 : World) (l : List Value → List Ob) (w : World) : Prop := ∃ k X, All B w0 (X ++ l k) w
/-- the plan over objects that lie apart -/
abbrev plA (B : Nat) (w0 : World) (l : List Value → List Ob) (val : List Value → Value → Prop) (made : Nat → Nat → Value) (cs : Nat → List Value) (ty : Nat → TypeId) : Pl := ⟨SomeAll B w0 l, fun k X w => All B w0 (X ++ l k) w, val, made, cs, ty⟩
theorem some_bk {B : Nat} {w0 : World} {l : List Value → List Ob} {g : Nat} {cs : List Value} {t : TypeId} (hm : ∀ k, bk g cs t ∈ l k) (x : InS (SomeAll B w0 l)) (j : Nat) : x.w.cell? ⟨g, j, none⟩ = cs[j]? := by
  obtain ⟨k, X, h⟩ := x.h
  have hb : Blk x.w g cs t := h.P (bk g cs t) (List.mem_append_right _ (hm k))
  exact hb.cell j
theorem reg_all {P : Program} {id : Nat} {Q' : Exit → Act → World → Prop} {a : Act} {w : World} {ls : List Oper} (B : Nat) (w0 : World) (l : List Value → List Ob) (val : List Value → Value → Prop) (made : Nat → Nat → Value) (cs : Nat → List Value) (ty : Nat → TypeId) (m : Nat)
    (hm : P.follows .mixedOrders = true) (hB : all4 .any ls.toArray m (ls.length - m) = true) (hC : All B w0 (l []) w)
    (h : wp4 P ls.toArray (plA B w0 l val made cs ty) (fun k X a' => ∀ w', All B w0 (X ++ l k) w' → wpList P ls.toArray Q' (ls.drop m) a' w') 0 [] [] (ls.take m) a) : (Code.region id ls.toArray true).wp P Q' a w :=
  reg_m (plA B w0 l val made cs ty) m hm hB (fun k X w h => ⟨k, X, h⟩) (fun k X w cs ty h => h.newBk cs ty) (fun k X Y w hp h => h.perm (List.Perm.append_right _ hp)) (hC.still ((RowKit.Below.refl _ _).drew)) h
end Go.Proofs.YtfdofkokiaapoaaGreatDoor.W.RV
end
section
/- Clone: a State's copy in new memory. -/
namespace Go.Proofs.YtfdofkokiaapoaaGreatDoor.W
open Go.RowKit
set_option linter.unusedVariables false
set_option linter.unusedSimpArgs false

def sameO (x y : Oz) : Prop := y.1.id = x.1.id ∧ y.1.cb = x.1.cb ∧ y.1.rs = x.1.rs ∧ y.1.ws.map Wt.bare = x.1.ws.map Wt.bare
/-- what is asked of a State that is copied -/
def ClOk (fs : List Fl) (zs : List Oz) : Prop := ∀ z ∈ zs, FIn fs z.1.ws ∧ z.1.ws.length ≤ 1000 ∧ z.1.rs.length ≤ 100000 ∧ ∀ x ∈ z.1.ws, x.flt.length ≤ 1000
def ClP (w : World) (nx : Int) (zs : List Oz) (e : Ending) (w' : World) : Prop :=
  ∃ (zg zc : Nat) (zs' : List Oz) (fs : List Fl), e = .returned (.agg #[.slice (some ⟨zg, 0, none⟩) zs.length zc, .slice none 0 0, .int .i64 nx]) ∧ zs'.length = zs.length ∧ (∀ (j : Nat) (x y : Oz), zs[j]? = some x → zs'[j]? = some y → sameO x y) ∧ (∀ z ∈ zs', FIn fs z.1.ws) ∧
    All w.heap.size w (sl 60 4 (.slice (some ⟨zg, 0, none⟩) zs.length zc) zs.length (rows encO zs') :: (obF zs' ++ [fo fs])) w'
/-- the copy's variables -/
def ClV (r2 r3 n zg zc : Nat) (nx : Int) : List Ob := [bk r3 [.slice (some ⟨zg, 0, none⟩) n zc, .slice none 0 0, .int .i64 nx] 34, bk r2 [.slice none 0 0, .slice none 0 0, .int .i64 0] 34]
/-- the loop over the observers: so many are copied -/
def ClR (w : World) (r2 r3 zg zc : Nat) (nx : Int) (zs : List Oz) (iv : Value) (wr : World) : Prop :=
  ∃ (zp : List Oz) (fs : List Fl), zp.length ≤ zs.length ∧ iv = .int .i64 (zp.length : Int) ∧ (∀ (j : Nat) (x y : Oz), zs[j]? = some x → zp[j]? = some y → sameO x y) ∧ (∀ z ∈ zp, FIn fs z.1.ws) ∧
    All w.heap.size w (ClV r2 r3 zs.length zg zc nx ++ (sl 60 4 (.slice (some ⟨zg, 0, none⟩) zs.length zc) zs.length (rows encO (zp ++ zs.drop zp.length)) :: (obF zp ++ [fo fs]))) wr
/-- the loop over the watches of one -/
def ClW (w : World) (r2 r3 zg zc : Nat) (nx : Int) (zs zp : List Oz) (z : Ov) (a1 : Value) (b : Value) (iv : Value) (wr : World) : Prop :=
  ∃ (wn : List Wt) (fs : List Fl), wn.length ≤ z.ws.length ∧ iv = .int .i64 (wn.length : Int) ∧ wn.map Wt.bare = (z.ws.take wn.length).map Wt.bare ∧ FIn fs wn ∧ (∀ x ∈ zp, FIn fs x.1.ws) ∧
    All w.heap.size w (ClV r2 r3 zs.length zg zc nx ++ (sl 60 4 (.slice (some ⟨zg, 0, none⟩) zs.length zc) zs.length (rows encO (zp ++ (z, a1, b) :: zs.drop (zp.length + 1))) :: sl 58 7 a1 z.ws.length (rows encW (wn ++ z.ws.drop wn.length)) :: rl b z.rs :: (obF zp ++ [fo fs]))) wr

/-- a filter that was copied -/
def lF (flt : List (List UInt8)) (vs : List Value) : List Ob := vs.map fun v => fo [(v, flt)]
theorem drop_at {α : Type} {l : List α} {k : Nat} {x : α} (h : l[k]? = some x) : l.drop k = x :: l.drop (k + 1) := by
  obtain ⟨hk, rfl⟩ := List.getElem?_eq_some_iff.1 h
  exact List.drop_eq_getElem_cons hk
theorem st_own {B : Nat} {w0 w : World} {g : Nat} {zv : Value} {nx : Int} {zs : List Oz} {l : List Ob} (h : All B w0 (stF g zv nx zs ++ l) w) {k : Nat} {z : Ov} {a b : Value} (hz : zs[k]? = some (z, a, b)) :
    Own w 58 7 a z.ws.length (rows encW z.ws) ∧ Own w 86 11 b z.rs.length (rows encR z.rs) := by
  obtain ⟨z1, z2, rfl, _⟩ := split_at hz
  exact ⟨h.P (sl 58 7 a z.ws.length (rows encW z.ws)) (by rw [stF_split]; simp), h.P (rl b z.rs) (by rw [stF_split]; simp)⟩
/-- the cells of the copy, and of an observer in it -/
theorem cl_cells {B : Nat} {w0 w : World} {r2 r3 n zg zc i : Nat} {nx : Int} {zp zr : List Oz} {z : Ov} {a b : Value} {l : List Ob} (h : All B w0 (ClV r2 r3 n zg zc nx ++ (sl 60 4 (.slice (some ⟨zg, 0, none⟩) n zc) n (rows encO (zp ++ (z, a, b) :: zr)) :: l)) w) (hi : zp.length = i) (hin : i < n) :
    w.cell? ⟨r3, 0, none⟩ = some (.slice (some ⟨zg, 0, none⟩) n zc) ∧ w.cell? ⟨zg, i * 4 + 2, none⟩ = some a ∧ w.cell? ⟨zg, i * 4 + 3, none⟩ = some b ∧ w.frozen? ⟨zg, i * 4 + 2, none⟩ = false ∧ w.frozen? ⟨zg, i * 4 + 3, none⟩ = false := by
  subst hi
  have k3 : Blk w r3 [.slice (some ⟨zg, 0, none⟩) n zc, .slice none 0 0, .int .i64 nx] 34 := h.head
  have hr : Own w _ _ _ _ _ := h.tail.tail.head
  have r2 := rows_at (enc := encO) encO_len _ zp.length _ (get_mid zp (z, a, b) zr) 2 (by decide)
  have r3' := rows_at (enc := encO) encO_len _ zp.length _ (get_mid zp (z, a, b) zr) 3 (by decide)
  have q2 := hr.cellAt (zp.length * 4 + 2) (by omega)
  have q3 := hr.cellAt (zp.length * 4 + 3) (by omega)
  rw [r2] at q2
  rw [r3'] at q3
  exact ⟨k3.cell 0, q2, q3, hr.frozenAt _, hr.frozenAt _⟩
theorem cl_cells' {B : Nat} {w0 w : World} {r2 r3 n zg zc i : Nat} {nx : Int} {zp zr : List Oz} {z : Ov} {a b : Value} {l : List Ob} (h : All B w0 (ClV r2 r3 n zg zc nx ++ (sl 60 4 (.slice (some ⟨zg, 0, none⟩) n zc) n (rows encO (zp ++ (z, a, b) :: zr)) :: l)) w) (hi : zp.length = i) (hin : i < n) :
    w.cell? ⟨r3, 0, none⟩ = some (.slice (some ⟨zg, 0, none⟩) n zc) ∧ w.cell? ⟨zg, i * 4 + 2, none⟩ = some a ∧ w.cell? ⟨zg, i * 4 + 3, none⟩ = some b ∧ w.frozen? ⟨zg, i * 4 + 2, none⟩ = false ∧ w.frozen? ⟨zg, i * 4 + 3, none⟩ = false := cl_cells h hi hin
/-- the records' copy laid in -/
theorem cl_rec {B : Nat} {w0 w : World} {r2 r3 n zg zc i : Nat} {nx : Int} {zp zr : List Oz} {z : Ov} {a b b1 : Value} {l : List Ob} (h : All B w0 ([rl b1 z.rs] ++ (ClV r2 r3 n zg zc nx ++ (sl 60 4 (.slice (some ⟨zg, 0, none⟩) n zc) n (rows encO (zp ++ (z, a, b) :: zr)) :: l))) w) (hi : zp.length = i) :
    All B w0 (ClV r2 r3 n zg zc nx ++ (sl 60 4 (.slice (some ⟨zg, 0, none⟩) n zc) n (rows encO (zp ++ (z, a, b1) :: zr)) :: (rl b1 z.rs :: l))) (w.setCell ⟨zg, i * 4 + 3, none⟩ b1) := by
  subst hi
  have hr := rows_field (enc := encO) encO_len (zp ++ (z, a, b) :: zr) zp.length 3 _ (z, a, b1) b1 (get_mid _ _ _) (by decide) rfl
  rw [set_mid] at hr
  rw [hr]
  have h1 := All.setSl ([rl b1 z.rs] ++ ClV r2 r3 n zg zc nx) (show All B w0 (([rl b1 z.rs] ++ ClV r2 r3 n zg zc nx) ++ sl 60 4 (.slice (some ⟨zg, 0, none⟩) n zc) n (rows encO (zp ++ (z, a, b) :: zr)) :: l) w from h) (zp.length * 4 + 3) b1
  exact h1.perm (List.perm_append_comm_assoc [_] [_, _, _] l)
/-- the watches' copy laid in -/
theorem cl_wat {B : Nat} {w0 w : World} {r2 r3 n zg zc i : Nat} {nx : Int} {zp zr : List Oz} {z : Ov} {a b a1 : Value} {l : List Ob} (h : All B w0 ([sl 58 7 a1 z.ws.length (rows encW z.ws)] ++ (ClV r2 r3 n zg zc nx ++ (sl 60 4 (.slice (some ⟨zg, 0, none⟩) n zc) n (rows encO (zp ++ (z, a, b) :: zr)) :: l))) w) (hi : zp.length = i) :
    All B w0 (ClV r2 r3 n zg zc nx ++ (sl 60 4 (.slice (some ⟨zg, 0, none⟩) n zc) n (rows encO (zp ++ (z, a1, b) :: zr)) :: (sl 58 7 a1 z.ws.length (rows encW z.ws) :: l))) (w.setCell ⟨zg, i * 4 + 2, none⟩ a1) := by
  subst hi
  have hr := rows_field (enc := encO) encO_len (zp ++ (z, a, b) :: zr) zp.length 2 _ (z, a1, b) a1 (get_mid _ _ _) (by decide) rfl
  rw [set_mid] at hr
  rw [hr]
  have h1 := All.setSl ([sl 58 7 a1 z.ws.length (rows encW z.ws)] ++ ClV r2 r3 n zg zc nx) (show All B w0 (([sl 58 7 a1 z.ws.length (rows encW z.ws)] ++ ClV r2 r3 n zg zc nx) ++ sl 60 4 (.slice (some ⟨zg, 0, none⟩) n zc) n (rows encO (zp ++ (z, a, b) :: zr)) :: l) w from h) (zp.length * 4 + 2) a1
  exact h1.perm (List.perm_append_comm_assoc [_] [_, _, _] l)

set_option maxRecDepth 100000 in
set_option maxHeartbeats 16000000 in
theorem clone_st {B : Nat} {w0 w : World} {g zg zc : Nat} {nx : Int} {zs : List Oz} {fs : List Fl} {l : List Ob} (h : All B w0 (stF g (.slice (some ⟨zg, 0, none⟩) zs.length zc) nx zs ++ (fo fs :: l)) w) (hok : ClOk fs zs) (hn : zs.length ≤ 1000) (hp : 0 < zs.length) :
    Calls Tryz.prog 11 #[.pointer (some ⟨g, 0, none⟩)] w (ClP w nx zs) := by
  have H := Lib.hid h
  have HOk := Lib.hid hok
  have HF := Lib.hid (show (fo fs).P w from h.P (fo fs) (by simp))
  have hg : Blk w g _ _ := h.head
  have HG := Lib.hid (fun (wx : World) (hb : Below w.heap.size w wx) => hg.below hb)
  have hgl := hg.lt
  have hO : Own w 60 4 (.slice (some ⟨zg, 0, none⟩) zs.length zc) zs.length (rows encO zs) := h.tail.head
  have HO := Lib.hid (fun (wx : World) (hb : Below w.heap.size w wx) => cloneO (own_below hO hb) (stF_one h) (by omega))
  have hA0 := (All.start w).newBkA w.heap.size rfl [.slice none 0 0, .slice none 0 0, .int .i64 0] 34
  have HA0 := Lib.hid hA0
  clear h hok hg hO hA0
  go_enter Tryz.func11, Tryz.ntmps11
  go_upto_region 1 with fail
  have hbW := HA0.out.below
  have HBW := Lib.hid hbW
  have kg := HG.out _ hbW
  have hgl2 := kg.lt
  have hle := hbW.size
  generalize hr2 : w.heap.size = r2 at *
  generalize w.alloc (.cells #[.slice none 0 0, .slice none 0 0, .int .i64 0] 34) = w1 at *
  have c0 := kg.cell 0
  have c1 := kg.cell 1
  have c2 := kg.cell 2
  simp only [List.getElem?_cons_zero, List.getElem?_cons_succ] at c0 c1 c2
  clear kg hbW
  have ne1 : g ≠ w1.heap.size := by omega
  have ne2 : w1.heap.size ≠ g := by omega
  go_cut [3] (fun s wx => ∃ r3 zg' zc', s = .pointer (some ⟨r3, 0, none⟩) ∧ All w.heap.size w (ClV r2 r3 zs.length zg' zc' nx ++ [sl 60 4 (.slice (some ⟨zg', 0, none⟩) zs.length zc') zs.length (rows encO zs)]) wx)
  case first =>
    go_region_held3 (fun w' => w'.cell? ⟨g, 0, none⟩ = some (.slice (some ⟨zg, 0, none⟩) zs.length zc) ∧ w'.cell? ⟨g, 1, none⟩ = some (.slice none 0 0) ∧ w'.cell? ⟨g, 2, none⟩ = some (.int .i64 nx)) (first | exact ⟨c0, c1, c2⟩ | exact ⟨d0, d1, d2⟩ | go_keep)
      (first
        | (go_at_call 34; refine (HO.out _ (by first | exact HBW.out.trans ((Below.refl _ _).drew) | exact HBW.out.trans (((Below.refl _ _).drew).alloc hle _))).mono ?_; rintro e w6 ⟨v', rfl, hA6⟩; have hb6 := hA6.below; have hB6 : Below r2 w w6 := (by first | exact (HBW.out.trans ((Below.refl _ _).drew)).trans (hb6.mono hle) | exact (HBW.out.trans (((Below.refl _ _).drew).alloc hle _)).trans (hb6.mono (by simp; omega))); have kg6 := HG.out w6 hB6; have d0 := kg6.cell 0; have d1 := kg6.cell 1; have d2 := kg6.cell 2; have gl6 := kg6.lt; have ne3 : g ≠ w6.heap.size := (by omega); have ne4 : w6.heap.size ≠ g := (by omega); simp only [List.getElem?_cons_zero, List.getElem?_cons_succ] at d0 d1 d2; (try (have k3 : Blk w6 w1.heap.size [.slice none 0 0, .slice none 0 0, .int .i64 0] 34 := (show Blk (w1.drew.alloc (.cells #[.slice none 0 0, .slice none 0 0, .int .i64 0] 34)) w1.heap.size _ _ from Blk.new w1.drew _ _).below hb6; have m0 := k3.cell 0; have m1 := k3.cell 1; have m2 := k3.cell 2; have mf0 := k3.free 0; have mf1 := k3.free 1; have mf2 := k3.free 2; simp only [List.getElem?_cons_zero, List.getElem?_cons_succ] at m0 m1 m2)); have ho6 : Own _ _ _ _ _ _ := hA6.head; obtain ⟨va, vc, rfl, _⟩ := own_some ho6 hp; have HA6 := Lib.hid hA6; have HB6 := Lib.hid hB6; clear hA6 hb6 hB6 kg6 ho6)
        | (go_at_call 35; refine (cloneZ _).mono ?_; rintro e w7 ⟨rfl, rfl⟩))
    all_goals
      go_wp2_with fail
      go_meet
      first
        | (refine ⟨w6.heap.size, va, vc, rfl, ?_⟩
           rw [hr2]
           exact ((HA0.out.drew.after HA6.out).newBkA w6.heap.size rfl [.slice (some ⟨va, 0, none⟩) zs.length vc, .slice none 0 0, .int .i64 nx] 34).perm (.cons _ (.swap _ _ _)))
        | (refine ⟨w1.heap.size, va, vc, rfl, ?_⟩
           rw [hr2]
           exact (((((HA0.out.drew.newBkA w1.heap.size rfl [.slice none 0 0, .slice none 0 0, .int .i64 0] 34).after HA6.out).setBk [_] 0 (.slice (some ⟨va, 0, none⟩) zs.length vc)).setBk [_] 1 (.slice none 0 0)).setBk [_] 2 (.int .i64 nx)).perm (List.perm_append_comm (l₁ := [_]) (l₂ := [_, _])))
  case rest =>
    obtain ⟨r3, zg2, zc2, rfl, hA⟩ := hcut
    have k3 : Blk wc r3 [.slice (some ⟨zg2, 0, none⟩) zs.length zc2, .slice none 0 0, .int .i64 nx] 34 := hA.head
    have e0 := k3.cell 0
    simp only [List.getElem?_cons_zero] at e0
    have HA1 := Lib.hid (show All w.heap.size w (ClV r2 r3 zs.length zg2 zc2 nx ++ (sl 60 4 (.slice (some ⟨zg2, 0, none⟩) zs.length zc2) zs.length (rows encO ([] ++ zs.drop 0)) :: (obF [] ++ [fo [(.slice none 0 0, [])]]))) wc from hA.fo0.perm (List.perm_append_comm (l₁ := [_]) (l₂ := [_, _, _])))
    clear hA k3 c0 c1 c2 ne1 ne2 hgl2 HA0 HBW hle
    have hNz := Lib.hid hn
    go_wp2_with fail
    go_loopw [26] (fun iv wr => ClR w r2 r3 zg2 zc2 nx zs iv wr) (fun iv _ => zs.length - (intOf iv).toNat)
    case atStart => exact ⟨[], _, Nat.zero_le _, rfl, (fun j x y _ hy => by simp at hy), (fun z hz => by cases hz), HA1.out⟩
    case round =>
      clear HA1 e0
      obtain ⟨zp, fs2, hzp, rfl, hsame, hfin, hA⟩ := hrel
      by_cases hil : zp.length < zs.length
      · obtain ⟨⟨z, a0, b0⟩, hz⟩ : ∃ x, zs[zp.length]? = some x := ⟨_, List.getElem?_eq_getElem hil⟩
        have hdr := drop_at hz
        rw [hdr] at hA
        obtain ⟨ho1, ho2⟩ := st_own H.out hz
        obtain ⟨k1, k2, k4, k5⟩ := HOk.out _ (List.mem_of_getElem? hz)
        simp only at k1 k2 k4 k5
        have HR := Lib.hid (fun (wx : World) (hb : Below w.heap.size w wx) => cloneR (own_below ho2 hb) (rows_one encR_one z.rs) (by omega))
        have HWc := Lib.hid (fun (wx : World) (hb : Below w.heap.size w wx) => cloneW (own_below ho1 hb) (rowsW_one (fun x hx => own_one (HF.out _ (k1 x hx)))) (by omega))
        have HFx := Lib.hid (fun (x : Wt) (hx : x ∈ z.ws) => HF.out _ (k1 x hx))
        obtain ⟨a0a, a0c, rfl⟩ := own_shape ho1
        obtain ⟨b0a, b0c, rfl⟩ := own_shape ho2
        generalize hi : zp.length = i at *
        have HI := Lib.hid hi
        have HZ := Lib.hid hz
        have HK5 := Lib.hid k5
        have HSm := Lib.hid hsame
        have HFn := Lib.hid hfin
        have f1 := cl_cells hA hi hil
        obtain ⟨e0, p2, p3, pf2, pf3⟩ := f1
        have HA := Lib.hid hA
        have HB := Lib.hid hA.below
        clear ho1 ho2 k1 k5 hsame hfin hz hdr hA hi
        go_wp2_with fail
        refine (HR.out _ HB.out).mono ?_
        rintro e w2 ⟨b1, rfl, hA2⟩
        have ho : Own _ _ _ _ _ _ := hA2.head
        obtain ⟨ba, bc, rfl⟩ := own_shape ho
        have hA3 := cl_rec (HA.out.after hA2) HI.out
        obtain ⟨e0', p2', p3', pf2', pf3'⟩ := cl_cells' (HA.out.after hA2).tail HI.out hil
        have HA3 := Lib.hid hA3
        clear e0 p2 p3 pf2 pf3 hA2 ho HA HB HR
        go_upto_region 7 with fail
        generalize w2.setCell ⟨zg2, i * 4 + 3, none⟩ (.slice ba z.rs.length bc) = w3 at *
        obtain ⟨e0, p2, p3, pf2, pf3⟩ := cl_cells' HA3.out HI.out hil
        clear e0' p2' p3' pf2' pf3'
        go_wp2_with fail
        refine (HWc.out _ HA3.out.below).mono ?_
        rintro e w4 ⟨a1, rfl, hA4⟩
        have ho : Own _ _ _ _ _ _ := hA4.head
        obtain ⟨a1a, a1c, rfl⟩ := own_shape ho
        have hA5 := cl_wat (HA3.out.after hA4) HI.out
        obtain ⟨e0', p2', p3', pf2', pf3'⟩ := cl_cells' (HA3.out.after hA4).tail HI.out hil
        have HA5 := Lib.hid hA5
        clear e0 p2 p3 pf2 pf3 hA4 ho HA3 HWc
        go_upto_region 8 with fail
        generalize w4.setCell ⟨zg2, i * 4 + 2, none⟩ (.slice a1a z.ws.length a1c) = w5 at *
        obtain ⟨e0, p2, p3, pf2, pf3⟩ := cl_cells' HA5.out HI.out hil
        clear e0' p2' p3' pf2' pf3'
        go_wp2_with fail
        go_loopw [54] (fun iv wr2 => ClW w r2 r3 zg2 zc2 nx zs zp z (.slice a1a z.ws.length a1c) (.slice ba z.rs.length bc) iv wr2) (fun iv _ => z.ws.length - (intOf iv).toNat)
        case atStart => exact ⟨[], fs2, Nat.zero_le _, rfl, rfl, (fun x hx => by cases hx), HFn.out, by have h1 := HA5.out; rw [← HI.out] at h1; exact h1⟩
        case round =>
          clear HA5 e0 p2 p3 pf2 pf3
          obtain ⟨wn, fs3, hwn, rfl, hwb, hwf, hpf, hA⟩ := hrel
          rw [HI.out] at hA
          by_cases hkl : wn.length < z.ws.length
          · obtain ⟨x, hx⟩ : ∃ x, z.ws[wn.length]? = some x := ⟨_, List.getElem?_eq_getElem hkl⟩
            have hdr := drop_at hx
            rw [hdr] at hA
            obtain ⟨e0, p2, p3, pf2, pf3⟩ := cl_cells hA HI.out hil
            have hOw : Own wr 58 7 (.slice a1a z.ws.length a1c) z.ws.length (rows encW (wn ++ x :: z.ws.drop (wn.length + 1))) := hA.tail.tail.tail.head
            obtain ⟨ag, ac, he, _⟩ := own_some hOw (by omega)
            simp only [Value.slice.injEq] at he
            obtain ⟨rfl, _, rfl⟩ := he
            have hxm := List.mem_of_getElem? hx
            have hFx := HFx.out x hxm
            have hx5 := HK5.out x hxm
            have qf := (hOw.cellAt (wn.length * 7 + 6) (by omega)).trans (rows_at (enc := encW) encW_len (wn ++ x :: z.ws.drop (wn.length + 1)) wn.length x (get_mid _ _ _) 6 (by decide))
            have qz := hOw.frozenAt (wn.length * 7 + 6)
            obtain ⟨fa, fc, hfv⟩ := own_shape hFx
            simp only [encW, hfv, List.getElem?_cons_zero, List.getElem?_cons_succ] at qf
            have hFx2 : Own w 9 1 (.slice fa x.flt.length fc) x.flt.length (x.flt.map strV) := by
              have h1 := hFx
              simp only [hfv] at h1
              exact h1
            have HCl := Lib.hid (fun (wx : World) (hb : Below w.heap.size w wx) => clone_flt (own_below hFx2 hb) (by omega))
            have hagl := own_lt hOw (k := ag) rfl
            have hzgl := own_lt (show Own wr 60 4 (.slice (some ⟨zg2, 0, none⟩) zs.length zc2) zs.length _ from hA.tail.tail.head) (k := zg2) rfl
            generalize hkk : wn.length = k at *
            have HKk := Lib.hid hkk
            have HWb := Lib.hid hwb
            have HWf := Lib.hid hwf
            have HPf := Lib.hid hpf
            have HX := Lib.hid hx
            have HA := Lib.hid hA
            have HB := Lib.hid hA.below
            have HQz := Lib.hid qz
            have HQf := Lib.hid qf
            have HXl := Lib.hid hagl
            have y2 : ∀ x1 : InS (RV.SomeAll wr.heap.size wr (lF x.flt)), x1.w.cell? ⟨zg2, i * 4 + 2, none⟩ = some (.slice (some ⟨ag, 0, none⟩) z.ws.length a1c) := fun x1 => by
              obtain ⟨_, X, hx1⟩ := x1.h
              exact ((bcell hx1.below).1 _ _ hzgl).trans p2
            have y6 : ∀ x1 : InS (RV.SomeAll wr.heap.size wr (lF x.flt)), x1.w.cell? ⟨ag, k * 7 + 6, none⟩ = some (.slice fa x.flt.length fc) := fun x1 => by
              obtain ⟨_, X, hx1⟩ := x1.h
              exact ((bcell hx1.below).1 _ _ hagl).trans qf
            have hne : Nonempty (InS (RV.SomeAll wr.heap.size wr (lF x.flt))) := ⟨⟨wr, [], [], All.start wr⟩⟩
            have hkl2 : (k : Int) < (z.ws.length : Int) := by omega
            clear hA hOw hFx hFx2 hfv hdr hx hxm hwb hwf hpf hkk qf qz hx5 p3 pf2 pf3 e0
            go_upto_region 11 with fail
            clear p2
            refine RV.reg_all wr.heap.size wr (lF x.flt) (fun _ v => ∃ a c, v = .slice a x.flt.length c) (fun _ r => .pointer (some ⟨r, 0, none⟩)) (fun _ => []) (fun _ => 0) 16 (by kernel_rfl) (by kernel_rfl) (All.start wr) ?_
            simp only [List.take_succ_cons, List.take_zero, List.drop_succ_cons, List.drop_zero]
            repeat (first
              | (refine RV.m_held (by rfl) (by rfl) (fun K hK => ?_); go_big_quiet_step (fail); refine wpQuiet_nil ?_; refine hK.out _ ?_; clear hK K)
              | (refine RV.m_skip (by rfl) ?_; simp only [Act.put, List.setIfInBounds_toArray, List.set_cons_zero, List.set_cons_succ]))
            refine RV.m_call (by rfl) (by rfl) (fun w => by go_simp; exact ⟨rfl, rfl⟩) ⟨_, none, 0, rfl⟩ ?_ ?_
            · intro X w2 h2
              refine (HCl.out w2 (bthen HB.out h2.below)).mono ?_
              rintro e w3 ⟨va, vc, rfl, ho3, hk3, hb3⟩
              refine ⟨_, rfl, ⟨va, vc, rfl⟩, ?_⟩
              have h3 := h2.new (o := fo [(.slice va x.flt.length vc, x.flt)]) (fun y hy => by simp only [List.mem_singleton] at hy; subst hy; exact ho3) hb3 (by rintro j ⟨y, hy, hj⟩; simp only [List.mem_singleton] at hy; subst hy; exact hk3 j hj)
              simp only [lF, List.map_nil, List.append_nil] at h3
              exact h3.perm (List.perm_append_comm (l₁ := [_]) (l₂ := X))
            rintro v ⟨va, vc, rfl⟩
            simp only [Act.put, List.setIfInBounds_toArray, List.set_cons_zero, List.set_cons_succ]
            repeat (first
              | (refine RV.m_held (by rfl) (by rfl) (fun K hK => ?_); go_big_quiet_step (fail); refine wpQuiet_nil ?_; refine hK.out _ ?_; clear hK K)
              | (refine RV.m_skip (by rfl) ?_; simp only [Act.put, List.setIfInBounds_toArray, List.set_cons_zero, List.set_cons_succ]))
            refine RV.m_nil ?_
            intro w7 hA7
            have hB7 := hA7.below
            have q7 := ((bcell hB7).1 _ _ HXl.out).trans HQf.out
            have z7 : w7.frozen? ⟨ag, k * 7 + 6, none⟩ = false := by
              have := (own_below (show Own wr 58 7 (.slice (some ⟨ag, 0, none⟩) z.ws.length a1c) z.ws.length _ from HA.out.tail.tail.tail.head) hB7).frozenAt (k * 7 + 6)
              exact this
            have HA7 := Lib.hid hA7
            clear hA7 hB7 y2 y6 hne
            go_wp2_with fail
            refine ⟨⟨wn ++ [{ x with fv := .slice va x.flt.length vc }], (.slice va x.flt.length vc, x.flt) :: fs3, by rw [List.length_append, HKk.out]; simp; omega, by rw [List.length_append, HKk.out]; simp, ?_, ?_, fun y hy => (HPf.out y hy).more _, ?_⟩, by simp [intOf]; omega⟩
            · rw [List.length_append, HKk.out, List.length_singleton, List.take_add_one, HX.out, List.map_append, List.map_append, HWb.out]
              rfl
            · intro y hy
              rcases List.mem_append.1 hy with hy | hy
              · exact List.mem_cons_of_mem _ (HWf.out y hy)
              · rw [List.mem_singleton] at hy
                subst hy
                exact List.mem_cons_self ..
            · have ho7 : Own w7 9 1 (.slice va x.flt.length vc) x.flt.length (x.flt.map strV) := (HA7.out.P (fo [(.slice va x.flt.length vc, x.flt)]) (by simp [lF])) (.slice va x.flt.length vc, x.flt) (List.mem_singleton.2 rfl)
              have hk7 : ∀ j, (Value.slice va x.flt.length vc).ownBlock = some j → wr.heap.size ≤ j := fun j hj => HA7.out.base (fo [(.slice va x.flt.length vc, x.flt)]) (by simp [lF]) j ⟨_, List.mem_singleton.2 rfl, hj⟩
              have h1 := All.addF (ClV r2 r3 zs.length zg2 zc2 nx ++ (_ :: _ :: _ :: obF zp)) (l2 := []) (by have := HA.out; simpa only [List.append_assoc, List.cons_append, List.nil_append] using this) ho7 HA7.out.below hk7
              have h2 := All.setSl (ClV r2 r3 zs.length zg2 zc2 nx ++ [_]) (l2 := rl (.slice ba z.rs.length bc) z.rs :: (obF zp ++ [fo ((.slice va x.flt.length vc, x.flt) :: fs3)])) (by simpa only [List.append_assoc, List.cons_append, List.nil_append] using h1) (k * 7 + 6) (.slice va x.flt.length vc)
              have hr := rows_field (enc := encW) encW_len (wn ++ x :: z.ws.drop (k + 1)) wn.length 6 x { x with fv := .slice va x.flt.length vc } (.slice va x.flt.length vc) (get_mid _ _ _) (by decide) rfl
              rw [set_mid, HKk.out] at hr
              rw [← hr] at h2
              have e1 : wn ++ ({ x with fv := Value.slice va x.flt.length vc } : Wt) :: z.ws.drop (k + 1) = (wn ++ [{ x with fv := .slice va x.flt.length vc }]) ++ z.ws.drop (wn ++ [({ x with fv := .slice va x.flt.length vc } : Wt)]).length := by
                rw [List.length_append, HKk.out, List.length_singleton, List.append_assoc]
                rfl
              rw [e1] at h2
              rw [HI.out]
              simpa only [List.append_assoc, List.cons_append, List.nil_append] using h2
          · have hwl : wn.length = z.ws.length := by omega
            rw [hwl] at hA hwb
            rw [List.drop_of_length_le (Nat.le_refl _), List.append_nil] at hA
            rw [List.take_length] at hwb
            have HA := Lib.hid hA
            have HWb := Lib.hid hwb
            have HWf := Lib.hid hwf
            have HPf := Lib.hid hpf
            have HWl := Lib.hid hwl
            rw [hwl]
            clear hA hwb hwf hpf hwl hwn hkl
            go_wp2_with fail
            refine ⟨⟨zp ++ [({ z with ws := wn }, .slice a1a z.ws.length a1c, .slice ba z.rs.length bc)], fs3, by rw [List.length_append, HI.out]; simp; omega, by rw [List.length_append, HI.out]; simp, fun j u v hu hv => ?_, fun y hy => ?_, ?_⟩, by simp [intOf]; omega⟩
            · by_cases hj : j < i
              · rw [List.getElem?_append_left (by rw [HI.out]; exact hj)] at hv
                exact HSm.out j u v hu hv
              · have hji : j = i := by
                  have := (List.getElem?_eq_some_iff.1 hv).1
                  rw [List.length_append, HI.out] at this
                  simp at this
                  omega
                subst hji
                rw [List.getElem?_append_right (by rw [HI.out]; exact Nat.le_refl _), HI.out, Nat.sub_self] at hv
                simp at hv
                subst hv
                rw [HZ.out] at hu
                cases hu
                exact ⟨rfl, rfl, rfl, HWb.out⟩
            · rcases List.mem_append.1 hy with hy | hy
              · exact HPf.out y hy
              · rw [List.mem_singleton] at hy
                subst hy
                exact HWf.out
            · have h1 := HA.out
              have er : rows encO (zp ++ (z, Value.slice a1a z.ws.length a1c, Value.slice ba z.rs.length bc) :: zs.drop (i + 1)) = rows encO ((zp ++ [({ z with ws := wn }, .slice a1a z.ws.length a1c, .slice ba z.rs.length bc)]) ++ zs.drop (zp ++ [(({ z with ws := wn } : Ov), Value.slice a1a z.ws.length a1c, Value.slice ba z.rs.length bc)]).length) := by
                rw [List.length_append, HI.out, List.length_singleton, List.append_assoc, rows_append, rows_append]
                rfl
              rw [er] at h1
              have e2 : obF (zp ++ [({ z with ws := wn }, .slice a1a z.ws.length a1c, .slice ba z.rs.length bc)]) = obF zp ++ [sl 58 7 (.slice a1a z.ws.length a1c) wn.length (rows encW wn), rl (.slice ba z.rs.length bc) z.rs] := by simp [obF]
              rw [e2, HWl.out, List.append_assoc (obF zp)]
              exact h1.perm (List.Perm.append_left _ (.cons _ (List.perm_append_comm_assoc [_, _] (obF zp) [_])))
      · have hzl : zp.length = zs.length := by omega
        rw [hzl] at hA
        rw [List.drop_of_length_le (Nat.le_refl _), List.append_nil] at hA
        have k3 : Blk wr r3 [.slice (some ⟨zg2, 0, none⟩) zs.length zc2, .slice none 0 0, .int .i64 nx] 34 := hA.head
        have k2 : Blk wr r2 [.slice none 0 0, .slice none 0 0, .int .i64 0] 34 := hA.tail.head
        have e0 := k3.cell 0
        have e1 := k3.cell 1
        have e2 := k3.cell 2
        have d0 := k2.cell 0
        have d1 := k2.cell 1
        have d2 := k2.cell 2
        have f0 := k2.free 0
        have f1 := k2.free 1
        have f2 := k2.free 2
        simp only [List.getElem?_cons_zero, List.getElem?_cons_succ] at e0 e1 e2 d0 d1 d2
        have HA := Lib.hid hA
        have HZl := Lib.hid hzl
        have HSm := Lib.hid hsame
        have HFn := Lib.hid hfin
        rw [hzl]
        clear hA hsame hfin k3 k2 hzl hil hzp
        go_wp2_with fail
        go_loopw [78] (fun iv wr2 => iv = .int .i64 0 ∧ wr = wr2) (fun _ _ => 0)
        case atStart => exact ⟨rfl, rfl⟩
        case round =>
          obtain ⟨rfl, hw⟩ := hrel
          subst hw
          go_wp2_with fail
          have h9 := ((HA.out.setBk [_] 0 (.slice (some ⟨zg2, 0, none⟩) zs.length zc2)).setBk [_] 1 (.slice none 0 0)).setBk [_] 2 (.int .i64 nx)
          simp only [List.set_cons_succ, List.set_cons_zero, List.cons_append, List.nil_append] at h9
          have k9 : Blk _ r2 _ _ := h9.tail.head
          have g0 := k9.cell 0
          have g1 := k9.cell 1
          have g2 := k9.cell 2
          simp only [List.getElem?_cons_zero, List.getElem?_cons_succ] at g0 g1 g2
          refine bodyPost_ret (v := .agg #[.slice (some ⟨zg2, 0, none⟩) zs.length zc2, .slice none 0 0, .int .i64 nx]) (by simp [results, Tryz.results11, go_sem, g0, g1, g2]) rfl ?_
          exact ⟨zg2, zc2, zp, fs2, rfl, HZl.out, HSm.out, HFn.out, h9.tail.tail⟩
end Go.Proofs.YtfdofkokiaapoaaGreatDoor.W
end
