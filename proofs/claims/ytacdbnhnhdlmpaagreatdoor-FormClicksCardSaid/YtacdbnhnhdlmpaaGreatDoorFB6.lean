/- Texts joined: RegM RegB. -/
import Derived.Test.YtacdbnhnhdlmpaaGreatDoorFB5
import Derived.Test.YtacdbnhnhdlmpaaGreatDoorFB1
set_option maxRecDepth 100000
set_option maxHeartbeats 40000000
set_option linter.unusedVariables false
set_option linter.unusedSimpArgs false
section
namespace Go.Proofs.YtacdbnhnhdlmpaaGreatDoor.W
open Go
def kindOf (o : Oper) : Nat := if isCall o then 1 else match o.op with | .alloc _ => 2 | .box _ _ => 2 | .buildSlice _ _ _ => 2 | _ => 0
structure Pl where
  S : World → Prop
  C : Nat → List Ob → World → Prop
  val : Nat → Value
  made : Nat → Nat → Value
  cs : Nat → List Value
  ty : Nat → TypeId
section
variable (P : Program) (ops : Array Oper) (L : Pl)
def madeRun (o : Oper) (a : Act) (mk : Nat → Value) (cs : List Value) (t : TypeId) : Prop := ∀ w, (execOp a.eval o).run P w = .ok (.value (mk w.heap.size)) (w.alloc (.cells cs.toArray t))
def callRunX (o : Oper) (a : Act) (k : Nat) : Prop :=
  ∀ X w, L.C k X w → ∃ f args, (execOp a.eval o).run P w = .ok (.enter f args) w ∧ Calls P f args w (fun e w' => e = .returned (L.val k) ∧ L.C (k + 1) X w')
def Ok4 (o : Oper) (i k : Nat) (a : Act) : Prop := Region.wanted o (yielded ops a.tmps) = true →
  (kindOf o = 0 → ∃ v, heldRun P L.S o a v) ∧ (kindOf o = 1 → callRunX P L o a k) ∧ (kindOf o = 2 → madeRun P o a (L.made i) (L.cs i) (L.ty i))
def Out4 (o : Oper) (i k : Nat) (a : Act) (k' : Nat) (D : List Ob) (v : Value) : Prop :=
  (Region.wanted o (yielded ops a.tmps) = false ∧ k' = k ∧ D = [] ∧ v = undef) ∨
  (Region.wanted o (yielded ops a.tmps) = true ∧ ((kindOf o = 0 ∧ heldRun P L.S o a v ∧ k' = k ∧ D = []) ∨ (kindOf o = 1 ∧ v = L.val k ∧ k' = k + 1 ∧ D = []) ∨
    (kindOf o = 2 ∧ k' = k ∧ ∃ g, v = L.made i g ∧ D = [bk g (L.cs i) (L.ty i)])))
def Step4 (o : Oper) (i k : Nat) (X : List Ob) (a : Act) (K : Nat → List Ob → Act → Prop) : Prop :=
  Ok4 P ops L o i k a ∧ ∀ k' D v, Out4 P ops L o i k a k' D v → K k' (D ++ X) (a.put o.dst v)
def wp4 (Q : Nat → List Ob → Act → Prop) : Nat → Nat → List Ob → List Oper → Act → Prop
  | _, k, X, [], a => Q k X a
  | i, k, X, o :: rest, a => Step4 P ops L o i k X a (fun k' X' a' => wp4 Q (i + 1) k' X' rest a')
def any4 (md : Region.Mode) (m : Nat) (Q : Array Bool → Nat → List Ob → Act → Prop) : Nat → Array Bool → Nat → List Ob → Act → Prop
  | 0, listed, k, X, a => (∀ j ∈ Region.ready md ops listed, m ≤ j) ∧ Q listed k X a
  | n + 1, listed, k, X, a => Region.ready md ops listed ≠ [] ∧ ∀ i ∈ Region.ready md ops listed, i < m ∧ ∀ o, ops[i]? = some o → Step4 P ops L o i k X a (fun k' X' a' => any4 md m Q n (listed.setIfInBounds i true) k' X' a')
end
section
variable {P : Program} {ops : Array Oper} {L : Pl} {md : Region.Mode} {m : Nat} {Q : Array Bool → Nat → List Ob → Act → Prop}
theorem kind_call {o : Oper} (h : isCall o = false) : kindOf o ≠ 1 := by
  unfold kindOf
  rw [h]
  simp only [Bool.false_eq_true, if_false]
  split <;> simp
theorem Ok4.same {o : Oper} {i k : Nat} {a a' : Act} (h : Ok4 P ops L o i k a) (he : execOp a'.eval o = execOp a.eval o) (hw : Region.wanted o (yielded ops a'.tmps) = Region.wanted o (yielded ops a.tmps)) : Ok4 P ops L o i k a' := by
  unfold Ok4 heldRun callRunX madeRun at *
  rw [he, hw]
  exact h
theorem Out4.same {o : Oper} {i k k' : Nat} {D : List Ob} {v : Value} {a a' : Act} (h : Out4 P ops L o i k a k' D v) (he : execOp a'.eval o = execOp a.eval o) (hw : Region.wanted o (yielded ops a'.tmps) = Region.wanted o (yielded ops a.tmps)) : Out4 P ops L o i k a' k' D v := by
  unfold Out4 heldRun at *
  rw [he, hw]
  exact h
theorem Ok4.stage {o : Oper} {i k : Nat} {a : Act} (hc : isCall o = false) (h : Ok4 P ops L o i k a) (j : Nat) : Ok4 P ops L o i j a := fun hw =>
  ⟨(h hw).1, fun e => absurd e (kind_call hc), (h hw).2.2⟩
theorem Out4.stage {o : Oper} {i k k' : Nat} {D : List Ob} {v : Value} {a : Act} (hc : isCall o = false) (h : Out4 P ops L o i k a k' D v) (j : Nat) : k' = k ∧ Out4 P ops L o i j a j D v := by
  rcases h with ⟨h1, h2, h3⟩ | ⟨h1, ⟨h2, h3, h4, h5⟩ | ⟨h2, _⟩ | ⟨h2, h3, h4⟩⟩
  · exact ⟨h2, .inl ⟨h1, rfl, h3⟩⟩
  · exact ⟨h4, .inr ⟨h1, .inl ⟨h2, h3, rfl, h5⟩⟩⟩
  · exact absurd h2 (kind_call hc)
  · exact ⟨h3, .inr ⟨h1, .inr (.inr ⟨h2, rfl, h4⟩)⟩⟩
theorem kind_three (o : Oper) : kindOf o = 0 ∨ kindOf o = 1 ∨ kindOf o = 2 := by
  unfold kindOf
  split
  · exact .inr (.inl rfl)
  · split <;> simp
theorem Ok4.out {o : Oper} {i k : Nat} {a : Act} (h : Ok4 P ops L o i k a) : ∃ k' D v, Out4 P ops L o i k a k' D v := by
  cases hw : Region.wanted o (yielded ops a.tmps) with
  | false => exact ⟨k, [], undef, .inl ⟨hw, rfl, rfl, rfl⟩⟩
  | true =>
    rcases kind_three o with e | e | e
    · obtain ⟨v, hv⟩ := (h hw).1 e
      exact ⟨k, [], v, .inr ⟨hw, .inl ⟨e, hv, rfl, rfl⟩⟩⟩
    · exact ⟨k + 1, [], L.val k, .inr ⟨hw, .inr (.inl ⟨e, rfl, rfl, rfl⟩)⟩⟩
    · exact ⟨k, _, _, .inr ⟨hw, .inr (.inr ⟨e, rfl, 0, rfl, rfl⟩)⟩⟩
theorem any4_perm (hP : ∀ listed k X Y a, X.Perm Y → Q listed k X a → Q listed k Y a) : ∀ (n : Nat) (listed : Array Bool) (k : Nat) (X Y : List Ob) (a : Act), X.Perm Y → any4 P ops L md m Q n listed k X a → any4 P ops L md m Q n listed k Y a := by
  intro n
  induction n with
  | zero => intro listed k X Y a hp h; exact ⟨h.1, hP _ _ _ _ _ hp h.2⟩
  | succ n ih =>
    intro listed k X Y a hp h
    refine ⟨h.1, fun i hi => ⟨(h.2 i hi).1, fun o ho => ?_⟩⟩
    obtain ⟨h1, h2⟩ := (h.2 i hi).2 o ho
    exact ⟨h1, fun k' D v hO => ih _ _ _ _ _ (List.Perm.append_left D hp) (h2 k' D v hO)⟩
theorem wpAny_of_any4 {t : Nat} {Q' : Exit → Act → World → Prop} (hS : ∀ k X w, L.C k X w → L.S w) (hM : ∀ k X w cs ty, L.C k X w → L.C k (bk w.heap.size cs ty :: X) (w.alloc (.cells cs.toArray ty)))
    (hQ : ∀ listed k X a w, L.C k X w → Q listed k X a → wpAny P md ops Q' t listed a w) :
    ∀ (n : Nat) (listed : Array Bool) (k : Nat) (X : List Ob) (a : Act) (w : World), L.C k X w → any4 P ops L md m Q n listed k X a → wpAny P md ops Q' (n + t) listed a w := by
  intro n
  induction n with
  | zero => intro listed k X a w hw h; rw [Nat.zero_add]; exact hQ _ _ _ _ _ hw h.2
  | succ n ih =>
    intro listed k X a w hw h
    rw [show n + 1 + t = (n + t) + 1 by omega]
    refine ⟨fun e => absurd e h.1, fun i hi => ?_⟩
    obtain ⟨_, o, ho, _⟩ := mem_ready.1 hi
    obtain ⟨hok, hn⟩ := (h.2 i hi).2 o ho
    unfold wpOp
    simp only [ho]
    cases hwt : Region.wanted o (yielded ops a.tmps) with
    | false =>
      simp only [Bool.false_eq_true, if_false]
      exact ih _ _ _ _ _ hw (hn k [] undef (.inl ⟨hwt, rfl, rfl, rfl⟩))
    | true =>
      simp only [if_true]
      left
      obtain ⟨o1, o2, o3⟩ := hok hwt
      unfold Oper.wp
      rcases kind_three o with e | e | e
      · obtain ⟨v, hv⟩ := o1 e
        have hk := hn k [] v (.inr ⟨hwt, .inl ⟨e, hv, rfl, rfl⟩⟩)
        rcases hv w (hS _ _ _ hw) with r | ⟨r, rfl⟩
        · rw [r]; exact ih _ _ _ _ _ hw hk
        · rw [r]; exact ih _ _ _ _ _ hw hk
      · obtain ⟨f, args, r, hc⟩ := o2 e X w hw
        have hk := hn (k + 1) [] (L.val k) (.inr ⟨hwt, .inr (.inl ⟨e, rfl, rfl, rfl⟩)⟩)
        rw [r]
        refine Calls.mono hc ?_
        rintro e w' ⟨rfl, hw'⟩
        exact ih _ _ _ _ _ hw' hk
      · have r := o3 e w
        have hk := hn k [bk w.heap.size (L.cs i) (L.ty i)] (L.made i w.heap.size) (.inr ⟨hwt, .inr (.inr ⟨e, rfl, w.heap.size, rfl, rfl⟩)⟩)
        rw [r]
        exact ih _ _ _ _ _ (hM _ _ _ _ _ hw) hk
theorem any4_first (hP : ∀ listed k X Y a, X.Perm Y → Q listed k X a → Q listed k Y a) {i : Nat} {oi : Oper} (hi : ops[i]? = some oi) (him : i < m) (hsel : ∀ (j : Nat) (o : Oper) cs b, ops[j]? = some o → o.op ≠ .select cs b) :
    ∀ (n : Nat) (listed : Array Bool) (k : Nat) (X : List Ob) (a : Act),
      (∀ j oj, ops[j]? = some oj → j ≠ i → listed.getD j true = false → (∀ e ∈ oj.after, Region.binds md e = true → e.on ≠ i) → oi.apart ops oj = true) →
      (∃ B : Nat → Bool, (∀ j, B j = true → listed.getD j true = false ∧ ∃ oj, ops[j]? = some oj ∧ ∃ e ∈ oj.after, Region.binds md e = true ∧ (e.on = i ∨ B e.on = true)) ∧
        (isCall oi = true → ∀ j oj, ops[j]? = some oj → isCall oj = true → j ≠ i → listed.getD j true = false → B j = true) ∧ (∀ j oj, ops[j]? = some oj → m ≤ j → B j = true)) →
      i ∈ Region.ready md ops listed → Step4 P ops L oi i k X a (fun k' X' a' => any4 P ops L md m Q n (listed.setIfInBounds i true) k' X' a') → any4 P ops L md m Q (n + 1) listed k X a := by
  have notB : ∀ (listed : Array Bool) (B : Nat → Bool), (∀ j, B j = true → listed.getD j true = false ∧ ∃ oj, ops[j]? = some oj ∧ ∃ e ∈ oj.after, Region.binds md e = true ∧ (e.on = i ∨ B e.on = true)) →
      i ∈ Region.ready md ops listed → ∀ j, j ∈ Region.ready md ops listed → (B j = false ∧ ∀ oj, ops[j]? = some oj → ∀ e ∈ oj.after, Region.binds md e = true → e.on ≠ i) := by
    intro listed B b1 hr j hj
    obtain ⟨hjun, oj, hoj, hall⟩ := mem_ready.1 hj
    have hiun := (mem_ready.1 hr).1
    have hnot : ∀ e ∈ oj.after, Region.binds md e = true → e.on ≠ i := fun e he hb heq => by
      have h1 := hall e he hb
      rw [heq] at h1
      rcases Nat.lt_or_ge i listed.size with h' | h'
      · simp [h'] at hiun h1; rw [hiun] at h1; cases h1
      · simp [Array.getElem?_eq_none h'] at h1
    refine ⟨?_, fun oj' hoj' => ?_⟩
    · by_cases hb : B j = true
      · obtain ⟨_, o', ho', e, he, hbe, hon⟩ := b1 j hb
        obtain rfl : oj = o' := by rw [hoj] at ho'; exact Option.some.inj ho'
        have h1 := hall e he hbe
        rcases hon with hon | hon
        · exact absurd hon (hnot e he hbe)
        · have h0 := (b1 _ hon).1
          rcases Nat.lt_or_ge e.on listed.size with h' | h'
          · simp [h'] at h0 h1; rw [h0] at h1; cases h1
          · simp [Array.getElem?_eq_none h'] at h1
      · simpa using hb
    · obtain rfl : oj = oj' := by rw [hoj] at hoj'; exact Option.some.inj hoj'
      exact hnot
  intro n
  induction n with
  | zero =>
    intro listed k X a _ ⟨B, b1, _, b3⟩ hr ⟨hok, H⟩
    refine ⟨fun h => (by rw [h] at hr; cases hr), fun j hj => ?_⟩
    by_cases hji : j = i
    · subst hji
      exact ⟨him, fun o ho => (by obtain rfl : oi = o := (by rw [hi] at ho; exact Option.some.inj ho); exact ⟨hok, H⟩)⟩
    · obtain ⟨k', D, v, hO⟩ := hok.out
      have h1 := (H k' D v hO).1 j (ready_mono hj hji)
      obtain ⟨_, oj, hoj, _⟩ := mem_ready.1 hj
      have h2 := b3 j oj hoj h1
      rw [(notB listed B b1 hr j hj).1] at h2
      cases h2
  | succ n ih =>
    intro listed k X a hfree ⟨B, b1, b2, b3⟩ hr ⟨hok, H⟩
    refine ⟨fun h => (by rw [h] at hr; cases hr), fun j hj => ?_⟩
    by_cases hji : j = i
    · subst hji
      exact ⟨him, fun o ho => (by obtain rfl : oi = o := (by rw [hi] at ho; exact Option.some.inj ho); exact ⟨hok, H⟩)⟩
    · obtain ⟨hBj, hnot'⟩ := notB listed B b1 hr j hj
      have hjm : j < m := by
        rcases Nat.lt_or_ge j m with h' | h'
        · exact h'
        · obtain ⟨_, oj, hoj, _⟩ := mem_ready.1 hj
          have := b3 j oj hoj h'
          rw [hBj] at this
          cases this
      refine ⟨hjm, fun oj hoj => ?_⟩
      have hnot := hnot' oj hoj
      have hjun := (mem_ready.1 hj).1
      have hap := hfree j oj hoj hji hjun hnot
      obtain ⟨p1, p2, p3⟩ := Oper.apart_spec hap
      have hsi := fun cs b => hsel i oi cs b hi
      have hsj := fun cs b => hsel j oj cs b hoj
      have hnc : isCall oi = true → isCall oj = false := fun hc => by
        by_cases hcj : isCall oj = true
        · have := b2 hc j oj hoj hcj hji hjun
          rw [hBj] at this
          cases this
        · simpa using hcj
      have hfree' : ∀ m om, ops[m]? = some om → m ≠ i → (listed.setIfInBounds j true).getD m true = false →
          (∀ e ∈ om.after, Region.binds md e = true → e.on ≠ i) → oi.apart ops om = true := fun m om hm hmi hun hno => by
        refine hfree m om hm hmi ?_ hno
        by_cases hjm : j = m
        · subst hjm; exact hjun
        · rw [getD_set_ne true hjm] at hun; exact hun
      have hr' := ready_mono hr (Ne.symm hji)
      -- what is known of j behind any outcome of i
      have hj2 : ∀ k' D v, Out4 P ops L oi i k a k' D v → Step4 P ops L oj j k' (D ++ X) (a.put oi.dst v) (fun k'' X'' a'' => any4 P ops L md m Q n ((listed.setIfInBounds i true).setIfInBounds j true) k'' X'' a'') :=
        fun k' D v hO => ((H k' D v hO).2 j (ready_mono hj hji)).2 oj hoj
      have hsame : ∀ v, execOp a.eval oj = execOp (a.put oi.dst v).eval oj ∧ Region.wanted oj (yielded ops a.tmps) = Region.wanted oj (yielded ops (a.put oi.dst v).tmps) := fun v => ⟨(execOp_put oj hsj a oi.dst v p1).symm, (wanted_put oj a oi.dst v p1).symm⟩
      have hokj : Ok4 P ops L oj j k a := by
        obtain ⟨k', D, v, hO⟩ := hok.out
        have h1 := (hj2 k' D v hO).1.same (hsame v).1 (hsame v).2
        by_cases hc : isCall oi = true
        · exact h1.stage (hnc hc) k
        · obtain ⟨rfl, _⟩ := hO.stage (by simpa using hc) 0
          exact h1
      refine ⟨hokj, fun kj Dj u hOj => ?_⟩
      have hsi2 : execOp (a.put oj.dst u).eval oi = execOp a.eval oi := execOp_put oi hsi a oj.dst u p3
      have hwi2 : Region.wanted oi (yielded ops (a.put oj.dst u).tmps) = Region.wanted oi (yielded ops a.tmps) := wanted_put oi a oj.dst u p3
      have hstage : isCall oi = true → kj = k := fun hc => (hOj.stage (hnc hc) 0).1
      have hoki : Ok4 P ops L oi i kj (a.put oj.dst u) := by
        by_cases hc : isCall oi = true
        · rw [hstage hc]; exact hok.same hsi2 hwi2
        · exact (hok.same hsi2 hwi2).stage (by simpa using hc) kj
      refine ih (listed.setIfInBounds j true) kj (Dj ++ X) (a.put oj.dst u) hfree' ⟨B, fun m hm => ?_, fun hc m om hom hcm hmi hun => ?_, b3⟩ hr' ⟨hoki, fun ki Di v hOi => ?_⟩
      · obtain ⟨c1, c2⟩ := b1 m hm
        refine ⟨?_, c2⟩
        rw [getD_set_ne true (by rintro rfl; rw [hm] at hBj; cases hBj)]
        exact c1
      · refine b2 hc m om hom hcm hmi ?_
        by_cases hjm : j = m
        · subst hjm; exact hjun
        · rw [getD_set_ne true hjm] at hun; exact hun
      · have hOi' := hOi.same hsi2.symm hwi2.symm
        by_cases hc : isCall oi = true
        · obtain rfl := hstage hc
          have h3 := (hj2 ki Di v hOi').2
          obtain ⟨_, h4⟩ := (hOj.same (a' := a.put oi.dst v) (hsame v).1.symm (hsame v).2.symm).stage (hnc hc) ki
          have h5 := h3 ki Dj u h4
          rw [Array.setIfInBounds_comm _ _ (Ne.symm hji), Act.put_comm a v u p2] at h5
          refine any4_perm hP _ _ _ _ _ _ ?_ h5
          rw [← List.append_assoc, ← List.append_assoc]
          exact List.Perm.append_right X List.perm_append_comm
        · obtain ⟨rfl, h4⟩ := hOi'.stage (by simpa using hc) k
          have h3 := (hj2 k Di v h4).2
          have h5 := h3 ki Dj u (hOj.same (a' := a.put oi.dst v) (hsame v).1.symm (hsame v).2.symm)
          rw [Array.setIfInBounds_comm _ _ (Ne.symm hji), Act.put_comm a v u p2] at h5
          refine any4_perm hP _ _ _ _ _ _ ?_ h5
          rw [← List.append_assoc, ← List.append_assoc]
          exact List.Perm.append_right X List.perm_append_comm
def tail4 (md : Region.Mode) (ops : Array Oper) : Nat → Nat → Array Bool → Bool
  | 0, _, listed => (Region.ready md ops listed).isEmpty
  | n + 1, k, listed => Region.ready md ops listed == [k] && tail4 md ops n (k + 1) (listed.setIfInBounds k true)
theorem wpAny_tail {Q' : Exit → Act → World → Prop} : ∀ (l : List Oper) (k : Nat) (listed : Array Bool) (a : Act) (w : World), (∀ j, l[j]? = ops[k + j]?) → tail4 md ops l.length k listed = true → wpList P ops Q' l a w → wpAny P md ops Q' l.length listed a w
  | [], _, _, _, _, _, hB, h => ⟨by simpa [tail4] using hB, h⟩
  | o :: l, k, listed, a, w, hl, hB, h => by
    have h0 : ops[k]? = some o := by simpa using (hl 0).symm
    simp only [List.length_cons, tail4, Bool.and_eq_true, beq_iff_eq] at hB
    obtain ⟨hr, hB'⟩ := hB
    refine ⟨fun e => (by rw [hr] at e; cases e), fun i hi => ?_⟩
    rw [hr, List.mem_singleton] at hi
    subst hi
    unfold wpOp
    simp only [h0]
    have hrec : ∀ a' w', wpList P ops Q' l a' w' → wpAny P md ops Q' l.length (listed.setIfInBounds i true) a' w' := fun a' w' h' => wpAny_tail l (i + 1) _ a' w' (fun j => by have := hl (j + 1); simpa [Nat.add_assoc, Nat.add_comm 1 j] using this) hB' h'
    unfold wpList at h
    split
    · rename_i hw
      rw [if_pos hw] at h
      exact h.imp (Oper.wp_mono hrec) id
    · rename_i hw
      rw [if_neg hw] at h
      exact hrec _ _ h
def lex4 (md : Region.Mode) (ops : Array Oper) (m t : Nat) : Nat → Nat → Array Bool → Bool
  | 0, _, listed => (Region.ready md ops listed).all (fun j => decide (m ≤ j)) && tail4 md ops t m listed
  | n + 1, k, listed => (Region.ready md ops listed).contains k && Region.free md ops listed k && lex4 md ops m t n (k + 1) (listed.setIfInBounds k true)
def block4 (md : Region.Mode) (ops : Array Oper) (m i : Nat) (B : List Nat) : Bool :=
  (B.all fun j => decide (i < j) && match ops[j]? with | some o => o.after.any fun e => Region.binds md e && (e.on == i || B.contains e.on) | none => false) &&
  ((List.range ops.size).all fun j => !(callAt ops i && callAt ops j && decide (i < j)) || B.contains j) && ((List.range ops.size).all fun j => !decide (m ≤ j) || B.contains j)
def all4 (md : Region.Mode) (ops : Array Oper) (m t : Nat) : Bool :=
  Region.noSelect ops && lex4 md ops m t m 0 (Array.replicate ops.size false) && ((List.range m).all fun i => block4 md ops m i (depList md ops i)) && decide (m + t = ops.size)
theorem block4_spec {i : Nat} {B : List Nat} (h : block4 md ops m i B = true) :
    (∀ j, B.contains j = true → i < j ∧ ∃ oj, ops[j]? = some oj ∧ ∃ e ∈ oj.after, Region.binds md e = true ∧ (e.on = i ∨ B.contains e.on = true)) ∧
    (callAt ops i = true → ∀ j oj, ops[j]? = some oj → isCall oj = true → i < j → B.contains j = true) ∧ (∀ j oj, ops[j]? = some oj → m ≤ j → B.contains j = true) := by
  unfold block4 at h
  rw [Bool.and_eq_true, Bool.and_eq_true] at h
  obtain ⟨⟨h1, h2⟩, h3⟩ := h
  refine ⟨fun j hj => ?_, fun hci j oj hoj hc hij => ?_, fun j oj hoj hmj => ?_⟩
  · rw [List.all_eq_true] at h1
    have := h1 j (by simpa using hj)
    rw [Bool.and_eq_true] at this
    obtain ⟨g1, g2⟩ := this
    refine ⟨by simpa using g1, ?_⟩
    cases ho : ops[j]? with
    | none => rw [ho] at g2; cases g2
    | some oj =>
      rw [ho] at g2
      obtain ⟨e, he, hb⟩ := Array.any_eq_true'.1 g2
      simp only [Bool.and_eq_true, Bool.or_eq_true, beq_iff_eq] at hb
      exact ⟨oj, rfl, e, he, hb.1, hb.2⟩
  · rw [List.all_eq_true] at h2
    have := h2 j (List.mem_range.2 (Array.getElem?_eq_some_iff.1 hoj).1)
    have hca : callAt ops j = true := by unfold callAt; rw [hoj]; exact hc
    simp only [hca, hci, hij, decide_true, Bool.and_self, Bool.not_true, Bool.false_or] at this
    exact this
  · rw [List.all_eq_true] at h3
    have := h3 j (List.mem_range.2 (Array.getElem?_eq_some_iff.1 hoj).1)
    simp only [hmj, decide_true, Bool.not_true, Bool.false_or] at this
    exact this
theorem any4_lex {t : Nat} {Q0 : Nat → List Ob → Act → Prop} (hP : ∀ listed k X Y a, X.Perm Y → Q listed k X a → Q listed k Y a) (hs : Region.noSelect ops = true) (hb : ((List.range m).all fun i => block4 md ops m i (depList md ops i)) = true)
    (hQ : ∀ listed k X a, tail4 md ops t m listed = true → Q0 k X a → Q listed k X a) :
    ∀ (l : List Oper) (i : Nat) (listed : Array Bool) (k : Nat) (X : List Ob) (a : Act), i + l.length = m → (∀ j, j < l.length → l[j]? = ops[i + j]?) →
    (∀ j, listed.getD j true = false → i ≤ j) → (∀ j, i ≤ j → j < ops.size → listed.getD j true = false) →
    lex4 md ops m t l.length i listed = true → wp4 P ops L Q0 i k X l a → any4 P ops L md m Q l.length listed k X a
  | [], i, listed, k, X, a, _, _, _, _, hB, h => by
    simp only [List.length_nil, lex4, Bool.and_eq_true, List.all_eq_true, decide_eq_true_eq] at hB
    exact ⟨hB.1, hQ _ _ _ _ hB.2 h⟩
  | o :: l, i, listed, k, X, a, him, hl, hlo, hhi, hB, h => by
    have h0 : ops[i]? = some o := by simpa using (hl 0 (by simp)).symm
    simp only [List.length_cons, lex4, Bool.and_eq_true] at hB
    obtain ⟨⟨hr, hf⟩, hB'⟩ := hB
    have hlt : i < ops.size := (Array.getElem?_eq_some_iff.1 h0).1
    have hil : i < m := by simp at him; omega
    have hmz : i < listed.size := by
      rcases Nat.lt_or_ge i listed.size with h' | h'
      · exact h'
      · have := hhi i (Nat.le_refl _) hlt; simp [Array.getElem?_eq_none h'] at this
    obtain ⟨c1, c2, c3⟩ := block4_spec ((List.all_eq_true.1 hb) i (List.mem_range.2 hil))
    refine any4_first hP h0 hil (Region.noSelect_spec hs) l.length listed k X a (Region.free_spec h0 hf) ⟨fun j => (depList md ops i).contains j, fun j hj => ?_, fun hc j oj hoj hcj hji hun => c2 (by unfold callAt; rw [h0]; exact hc) j oj hoj hcj (by have := hlo j hun; omega), c3⟩ (by simpa using hr) ⟨h.1, fun k' D v hO => ?_⟩
    · obtain ⟨g1, oj, hoj, g2⟩ := c1 j hj
      exact ⟨hhi j (by omega) (Array.getElem?_eq_some_iff.1 hoj).1, oj, hoj, g2⟩
    · refine any4_lex hP hs hb hQ l (i + 1) _ k' _ _ (by simp at him; omega) (fun j hj => by have := hl (j + 1) (by simpa using hj); simpa [Nat.add_assoc, Nat.add_comm 1 j] using this) ?_ ?_ hB' (h.2 k' D v hO)
      · intro j hj
        by_cases hjm : i = j
        · subst hjm; simp [hmz] at hj
        · rw [getD_set_ne true hjm] at hj; have := hlo j hj; omega
      · intro j hj hjs
        rw [getD_set_ne true (by omega)]
        exact hhi j (by omega) hjs
theorem reg_m {id : Nat} {Q' : Exit → Act → World → Prop} {a : Act} {w : World} {l : List Oper} (L : Pl) (m : Nat) (hm : P.follows .mixedOrders = true) (hB : all4 .any l.toArray m (l.length - m) = true)
    (hS : ∀ k X w, L.C k X w → L.S w) (hM : ∀ k X w cs ty, L.C k X w → L.C k (bk w.heap.size cs ty :: X) (w.alloc (.cells cs.toArray ty))) (hP : ∀ k X Y w, X.Perm Y → L.C k X w → L.C k Y w) (hC : L.C 0 [] w.drew)
    (h : wp4 P l.toArray L (fun k X a' => ∀ w', L.C k X w' → wpList P l.toArray Q' (l.drop m) a' w') 0 0 [] (l.take m) a) : (Code.region id l.toArray true).wp P Q' a w := by
  simp only [all4, Bool.and_eq_true, decide_eq_true_eq] at hB
  obtain ⟨⟨⟨hs, hlx⟩, hb⟩, hsz⟩ := hB
  have hml : m ≤ l.length := by simp at hsz; omega
  have htk : (l.take m).length = m := by simp [hml]
  refine wp_region_any hm ?_
  have h1 := any4_lex (P := P) (L := L) (md := .any) (m := m) (t := l.length - m) (Q := fun listed k X a' => ∀ w', L.C k X w' → wpAny P .any l.toArray Q' (l.length - m) listed a' w')
    (fun listed k X Y a hp hq w' hw' => hq w' (hP _ _ _ _ hp.symm hw')) hs hb
    (fun listed k X a ht hq w' hw' => by
      have := wpAny_tail (P := P) (md := .any) (ops := l.toArray) (Q' := Q') (l.drop m) m listed a w' (fun j => by simp) (by simpa using ht) (hq w' hw')
      simpa using this)
    (l.take m) 0 (Array.replicate l.toArray.size false) 0 [] a (by rw [htk]; omega) (fun j hj => by rw [List.getElem?_take]; simp at hj ⊢; omega) (by simp) (by simp; intro j hj; simp [hj]) (by rw [htk]; exact hlx) h
  have h2 := wpAny_of_any4 (Q' := Q') hS hM (fun listed k X a w' hw' hq => hq w' hw') _ _ 0 [] a _ hC h1
  have e : (l.take m).length + (l.length - m) = l.toArray.size := by rw [htk]; simp; omega
  rw [e] at h2
  exact h2
end
section
variable {P : Program} {ops : Array Oper} {L : Pl} {Q : Nat → List Ob → Act → Prop} {i k : Nat} {X : List Ob} {o : Oper} {rest : List Oper} {a : Act}
theorem held_one {S : World → Prop} [hne : Nonempty (InS S)] {v v' : Value} (h : heldRun P S o a v) (h' : heldRun P S o a v') : v = v' := by
  obtain ⟨x⟩ := hne
  rcases h x.w x.h with e | ⟨e, rfl⟩ <;> rcases h' x.w x.h with e' | ⟨e', rfl⟩
  · rw [e] at e'; simpa using e'
  · rw [e] at e'; simp at e'
  · rw [e] at e'; simp at e'
  · rfl
theorem m_skip (hw : Region.wanted o (yielded ops a.tmps) = false) (h : wp4 P ops L Q (i + 1) k X rest (a.put o.dst undef)) : wp4 P ops L Q i k X (o :: rest) a := by
  refine ⟨fun h' => absurd (hw.symm.trans h') (by decide), fun k' D v hO => ?_⟩
  rcases hO with ⟨_, rfl, rfl, rfl⟩ | ⟨h', _⟩
  · exact h
  · rw [hw] at h'; cases h'
theorem m_held [hne : Nonempty (InS L.S)] (hk : kindOf o = 0) (hc : isCall o = false) (h : ∀ K : Act → Prop, Shut (∀ a, wp4 P ops L Q (i + 1) k X rest a → K a) → wpQuiet P ops (fun w' => ∃ x : InS L.S, w' = x.w) K [o] a) : wp4 P ops L Q i k X (o :: rest) a := by
  have h1 := h (wp4 P ops L Q (i + 1) k X rest) (fun _ h => h)
  unfold wpQuiet at h1
  split at h1
  · rename_i hw
    obtain ⟨v, h2, h3⟩ := h1
    have hv : heldRun P L.S o a v := fun w hS => by
      have h4 := h2 w ⟨⟨w, hS⟩, rfl⟩
      unfold Oper.quietAt at h4
      generalize hr : (execOp a.eval o).run P w = r at h4
      cases r with
      | halt x w' => exact h4.elim
      | ok n w' =>
        cases n <;> simp only [Oper.quietUpon] at h4
        case value u => obtain ⟨rfl, rfl⟩ := h4; exact .inl rfl
        case skip => obtain ⟨rfl, rfl⟩ := h4; exact .inr ⟨rfl, rfl⟩
        case enter f args => exact absurd hr (notEnter hc)
    refine ⟨fun _ => ⟨fun _ => ⟨v, hv⟩, fun e => absurd (hk.symm.trans e) (by decide), fun e => absurd (hk.symm.trans e) (by decide)⟩, fun k' D v' hO => ?_⟩
    rcases hO with ⟨h', _⟩ | ⟨_, ⟨_, hv', rfl, rfl⟩ | ⟨e, _⟩ | ⟨e, _⟩⟩
    · rw [hw] at h'; cases h'
    · rw [← held_one hv hv']; exact h3
    · rw [hk] at e; cases e
    · rw [hk] at e; cases e
  · rename_i hw
    exact m_skip (by simpa using hw) h1
theorem m_call {f : FuncId} {args : Array Value} (v : Value) (hv : L.val k = v) (hw : Region.wanted o (yielded ops a.tmps) = true) (hk : kindOf o = 1) (hx : ∀ w, (execOp a.eval o).run P w = .ok (.enter f args) w)
    (hC : ∀ X w, L.C k X w → Calls P f args w (fun e w' => e = .returned v ∧ L.C (k + 1) X w')) (h : wp4 P ops L Q (i + 1) (k + 1) X rest (a.put o.dst v)) : wp4 P ops L Q i k X (o :: rest) a := by
  subst hv
  refine ⟨fun _ => ⟨fun e => absurd (hk.symm.trans e) (by decide), fun _ X w hw' => ⟨f, args, hx w, hC X w hw'⟩, fun e => absurd (hk.symm.trans e) (by decide)⟩, fun k' D v' hO => ?_⟩
  rcases hO with ⟨h', _⟩ | ⟨_, ⟨e, _⟩ | ⟨_, rfl, rfl, rfl⟩ | ⟨e, _⟩⟩
  · rw [hw] at h'; cases h'
  · rw [hk] at e; cases e
  · exact h
  · rw [hk] at e; cases e
theorem m_made (mk : Nat → Value) (cs : List Value) (ty : TypeId) (e1 : L.made i = mk) (e2 : L.cs i = cs) (e3 : L.ty i = ty) (hw : Region.wanted o (yielded ops a.tmps) = true) (hk : kindOf o = 2)
    (hx : ∀ w, (execOp a.eval o).run P w = .ok (.value (mk w.heap.size)) (w.alloc (.cells cs.toArray ty))) (h : ∀ g, wp4 P ops L Q (i + 1) k (bk g cs ty :: X) rest (a.put o.dst (mk g))) : wp4 P ops L Q i k X (o :: rest) a := by
  subst e1 e2 e3
  refine ⟨fun _ => ⟨fun e => absurd (hk.symm.trans e) (by decide), fun e => absurd (hk.symm.trans e) (by decide), fun _ => hx⟩, fun k' D v' hO => ?_⟩
  rcases hO with ⟨h', _⟩ | ⟨_, ⟨e, _⟩ | ⟨e, _⟩ | ⟨_, rfl, g, rfl, rfl⟩⟩
  · rw [hw] at h'; cases h'
  · rw [hk] at e; cases e
  · rw [hk] at e; cases e
  · exact h g
theorem m_nil (h : Q k X a) : wp4 P ops L Q i k X [] a := h
end
theorem All.perm {B : Nat} {w0 w : World} {l l' : List Ob} (h : All B w0 l w) (hp : l.Perm l') : All B w0 l' w :=
  ⟨fun o ho => h.P o (hp.mem_iff.2 ho), (hp.pairwise_iff (fun {x y} hxy k h1 h2 => hxy k h2 h1)).1 h.apart, fun o ho => h.base o (hp.mem_iff.2 ho), h.below, h.le⟩
def SomeAll (B : Nat) (w0 : World) (l : Nat → List Ob) (w : World) : Prop := ∃ k X, All B w0 (X ++ l k) w
abbrev plA (B : Nat) (w0 : World) (l : Nat → List Ob) (val : Nat → Value) (made : Nat → Nat → Value) (cs : Nat → List Value) (ty : Nat → TypeId) : Pl := ⟨SomeAll B w0 l, fun k X w => All B w0 (X ++ l k) w, val, made, cs, ty⟩
theorem reg_all {P : Program} {id : Nat} {Q' : Exit → Act → World → Prop} {a : Act} {w : World} {ls : List Oper} (B : Nat) (w0 : World) (l : Nat → List Ob) (val : Nat → Value) (made : Nat → Nat → Value) (cs : Nat → List Value) (ty : Nat → TypeId) (m : Nat)
    (hm : P.follows .mixedOrders = true) (hB : all4 .any ls.toArray m (ls.length - m) = true) (hC : All B w0 (l 0) w)
    (h : wp4 P ls.toArray (plA B w0 l val made cs ty) (fun k X a' => ∀ w', All B w0 (X ++ l k) w' → wpList P ls.toArray Q' (ls.drop m) a' w') 0 0 [] (ls.take m) a) : (Code.region id ls.toArray true).wp P Q' a w :=
  reg_m (plA B w0 l val made cs ty) m hm hB (fun k X w h => ⟨k, X, h⟩) (fun k X w cs ty h => h.newBk cs ty) (fun k X Y w hp h => h.perm (List.Perm.append_right _ hp)) (hC.still ((RowKit.Below.refl _ _).drew)) h
abbrev StB (w0 : World) (w : World) : Prop := RowKit.Below w0.heap.size w0 w
abbrev plB (w0 : World) (val : Nat → Value) : Pl := ⟨StB w0, fun _ _ w => StB w0 w, val, fun _ _ => undef, fun _ => [], fun _ => 0⟩
theorem stb_ne (w0 : World) : Nonempty (InS (StB w0)) := ⟨⟨w0, RowKit.Below.refl _ _⟩⟩
theorem reg_b {P : Program} {id : Nat} {Q' : Exit → Act → World → Prop} {a : Act} {w : World} {ls : List Oper} (val : Nat → Value) (m : Nat)
    (hm : P.follows .mixedOrders = true) (hB : all4 .any ls.toArray m (ls.length - m) = true)
    (h : wp4 P ls.toArray (plB w val) (fun k X a' => ∀ w', StB w w' → wpList P ls.toArray Q' (ls.drop m) a' w') 0 0 [] (ls.take m) a) : (Code.region id ls.toArray true).wp P Q' a w :=
  reg_m (plB w val) m hm hB (fun k X w h => h) (fun k X w' cs ty h => h.alloc h.size _) (fun k X Y w hp h => h) ((RowKit.Below.refl _ _).drew) h
end Go.Proofs.YtacdbnhnhdlmpaaGreatDoor.W
end
