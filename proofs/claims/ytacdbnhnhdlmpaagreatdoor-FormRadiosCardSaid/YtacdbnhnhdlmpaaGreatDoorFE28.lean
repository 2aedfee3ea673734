/- Texts joined: Wlk McpP Mcpy EdR. -/
import Derived.Test.YtacdbnhnhdlmpaaGreatDoorFE27
import Derived.Deep.CutBlock
import Derived.Deep.DeepCutAuto
import Derived.Test.YtacdbnhnhdlmpaaGreatDoorFE25
set_option maxRecDepth 100000
set_option maxHeartbeats 40000000
set_option linter.unusedVariables false
set_option linter.unusedSimpArgs false
section
namespace Go.Proofs.YtacdbnhnhdlmpaaGreatDoor.W
open Go.RowKit
def wlk (K : Nat → List Nat) : Nat → Nat → List Nat
  | 0, i => [i]
  | f + 1, i => i :: (K i).flatMap (wlk K f)
theorem flatMap_take_succ {α β : Type} {l : List α} {j : Nat} {k : α} (h : l[j]? = some k) (f : α → List β) : (l.take (j + 1)).flatMap f = (l.take j).flatMap f ++ f k := by
  rw [List.take_add_one, h, List.flatMap_append]; simp
theorem wlk_pos (K : Nat → List Nat) (f i : Nat) : 1 ≤ (wlk K f i).length := by cases f <;> simp [wlk]
theorem nodup_flat {α : Type} (f : Nat → List α) : ∀ l : List Nat, l.Nodup → (∀ x ∈ l, (f x).Nodup) → (∀ x ∈ l, ∀ y ∈ l, x ≠ y → ∀ z, z ∈ f x → z ∉ f y) → (l.flatMap f).Nodup
  | [], _, _, _ => by simp
  | x :: l, h1, h2, h3 => by
    rw [List.nodup_cons] at h1
    rw [List.flatMap_cons, List.nodup_append]
    refine ⟨h2 x (by simp), nodup_flat f l h1.2 (fun y hy => h2 y (by simp [hy])) (fun a ha b hb => h3 a (by simp [ha]) b (by simp [hb])), ?_⟩
    rintro a ha b hb rfl
    obtain ⟨y, hy, hb⟩ := List.mem_flatMap.1 hb
    exact h3 x (by simp) y (by simp [hy]) (fun e => h1.1 (e ▸ hy)) a ha hb
section
variable {S : Tr} {K : Nat → List Nat} {d : Nat → Nat}
theorem Lk.parO (h : Lk S K d) (x : Nat) : (∃ q, x ∈ K q) ∨ ∀ q, x ∉ K q := by
  by_cases e : ∃ q, x ∈ K q
  · exact .inl e
  · exact .inr (fun q hq => e ⟨q, hq⟩)
theorem sub_le (h : Lk S K d) {a x : Nat} (hx : (S.at x).isSome = true) (hs : subB S d a x = true) : d a ≤ d x := (sub_dep h (d x) x rfl hx hs).1
theorem sub_trans (h : Lk S K d) {a b : Nat} : ∀ (n x : Nat), d x = n → (S.at x).isSome = true → subB S d a b = true → subB S d b x = true → subB S d a x = true
  | n, x, hn, hx, h1, h2 => by
    rcases h.parO x with ⟨q, hq⟩ | ht
    · have hd := h.dep q x hq
      have e1 := sub_kid h hq b
      have e2 := sub_kid h hq a
      rw [e1] at h2
      rw [e2]
      by_cases hbx : b = x
      · subst hbx
        rw [e2] at h1; exact h1
      · have h3 : subB S d b q = true := by
          have : (b == x) = false := beq_eq_false_iff_ne.2 hbx
          rw [this] at h2; simpa using h2
        have := sub_trans h (d q) q rfl (h.kin q x hq).1 h1 h3
        rw [this]; simp
    · rw [sub_top h hx ht] at h2 ⊢
      have hbx : b = x := by simpa using h2
      subst hbx
      rw [sub_top h hx ht] at h1; exact h1
termination_by n => n
decreasing_by omega
theorem sub_uniq (h : Lk S K d) {a b : Nat} (hab : d a = d b) : ∀ (n x : Nat), d x = n → (S.at x).isSome = true → subB S d a x = true → subB S d b x = true → a = b
  | n, x, hn, hx, h1, h2 => by
    rcases h.parO x with ⟨q, hq⟩ | ht
    · have hd := h.dep q x hq
      have hu := (h.kin q x hq).1
      rw [sub_kid h hq] at h1 h2
      by_cases ha : a = x
      · by_cases hb : b = x
        · rw [ha, hb]
        · have : subB S d b q = true := by rw [beq_eq_false_iff_ne.2 hb] at h2; simpa using h2
          have := sub_le h hu this
          rw [ha] at hab; omega
      · have h3 : subB S d a q = true := by rw [beq_eq_false_iff_ne.2 ha] at h1; simpa using h1
        by_cases hb : b = x
        · have := sub_le h hu h3
          rw [hb] at hab; omega
        · have h4 : subB S d b q = true := by rw [beq_eq_false_iff_ne.2 hb] at h2; simpa using h2
          exact sub_uniq h hab (d q) q rfl hu h3 h4
    · rw [sub_top h hx ht] at h1 h2
      have e1 : a = x := by simpa using h1
      have e2 : b = x := by simpa using h2
      rw [e1, e2]
termination_by n => n
decreasing_by omega
theorem wlk_sub (h : Lk S K d) : ∀ (f x y : Nat), (S.at x).isSome = true → y ∈ wlk K f x → subB S d x y = true ∧ (S.at y).isSome = true
  | 0, x, y, hx, hy => by
    simp [wlk] at hy; subst hy; exact ⟨sub_self h hx, hx⟩
  | f + 1, x, y, hx, hy => by
    rw [wlk, List.mem_cons] at hy
    rcases hy with rfl | hy
    · exact ⟨sub_self h hx, hx⟩
    · obtain ⟨k, hk, hy⟩ := List.mem_flatMap.1 hy
      obtain ⟨h1, h2⟩ := wlk_sub h f k y (h.kin x k hk).2 hy
      refine ⟨sub_trans h (d y) y rfl h2 (b := k) ?_ h1, h2⟩
      rw [sub_kid h hk, sub_self h hx]; simp
theorem wlk_nodup (h : Lk S K d) : ∀ (f x : Nat), (S.at x).isSome = true → (wlk K f x).Nodup
  | 0, x, _ => by simp [wlk]
  | f + 1, x, hx => by
    rw [wlk, List.nodup_cons]
    refine ⟨fun hm => ?_, nodup_flat _ _ (h.nodup x) (fun k hk => wlk_nodup h f k (h.kin x k hk).2) (fun a ha b hb hab z hza hzb => ?_)⟩
    · obtain ⟨k, hk, hy⟩ := List.mem_flatMap.1 hm
      have h1 := wlk_sub h f k x (h.kin x k hk).2 hy
      have := sub_le h hx h1.1
      have := h.dep x k hk
      omega
    · obtain ⟨h1, h2⟩ := wlk_sub h f a z (h.kin x a ha).2 hza
      obtain ⟨h3, _⟩ := wlk_sub h f b z (h.kin x b hb).2 hzb
      exact hab (sub_uniq h (by rw [h.dep x a ha, h.dep x b hb]) (d z) z rfl h2 h1 h3)
theorem wlk_len (h : Lk S K d) (f x : Nat) (hx : (S.at x).isSome = true) : (wlk K f x).length ≤ S.slots.length :=
  nodup_len S.slots.length _ (wlk_nodup h f x hx) (fun y hy => by
    obtain ⟨n, hn⟩ := Option.isSome_iff_exists.1 (wlk_sub h f x y hx hy).2
    exact at_lt hn)
end

theorem exec_append {P : Program} {o : Oper} {a : Act} {w w' : World} {t : TypeId} {s x : Operand} {dv sv v' : Value} (ho : o.op = .call { callee := .builtin .append, args := #[s, x], argTypes := #[t, t] }) (hd : a.eval s = dv) (hx : a.eval x = sv)
    (hr : (Builtin.append_ #[t, t] o.type #[dv, sv]).run P w = .ok v' w') : (execOp a.eval o).run P w = .ok (.value v') w' := by
  unfold execOp
  simp only [ho, resolve, invoke, builtin, Sem.run_bind, Sem.run_pure, Result.andThen_ok, List.map_toArray, List.map_cons, List.map_nil, hd, hx, hr]
theorem box_is (w : World) (p q r : List UInt8) (n : Nat) (m : Nat) : Blk ((w.alloc (.cells #[.string (⟨p.toArray⟩ ++ ⟨q.toArray⟩ ++ ⟨r.toArray⟩), .int .i64 ((n : Int) + (m : Int)), .int .i64 ((n : Int) + (m : Int))] 48)).drew) w.heap.size [strV (p ++ (q ++ r)), .int .i64 ((n + m : Nat) : Int), .int .i64 ((n + m : Nat) : Int)] 48 := by
  have e : (⟨p.toArray⟩ ++ ⟨q.toArray⟩ ++ ⟨r.toArray⟩ : ByteArray) = ⟨(p ++ (q ++ r)).toArray⟩ := by
    rw [bytes_app, bytes_app]
    show (⟨(p ++ q ++ r).toArray⟩ : ByteArray) = _
    rw [List.append_assoc]
  rw [e, Int.natCast_add]
  exact (Blk.new w [strV (p ++ (q ++ r)), .int .i64 ((n : Int) + (m : Int)), .int .i64 ((n : Int) + (m : Int))] 48).kept rfl
def SR (Q gm : Nat) (m0 M : Mo) (w' : World) : Prop := w'.cell? ⟨Q, 1, none⟩ = some (.string ⟨m0.val.toArray⟩) ∧ w'.cell? ⟨Q, 2, none⟩ = some (.int .i64 (m0.st : Int)) ∧ w'.cell? ⟨Q, 3, none⟩ = some (.int .i64 (m0.en : Int)) ∧ w'.cell? ⟨gm, 0, none⟩ = some (.string ⟨M.val.toArray⟩) ∧ w'.cell? ⟨gm, 1, none⟩ = some (.int .i64 (M.st : Int)) ∧ w'.cell? ⟨gm, 2, none⟩ = some (.int .i64 (M.en : Int))
theorem SR.below {Q gm : Nat} {m0 M : Mo} {w w' : World} (h : SR Q gm m0 M w) (hb : Below w.heap.size w w') : SR Q gm m0 M w' :=
  ⟨cell_keep hb h.1, cell_keep hb h.2.1, cell_keep hb h.2.2.1, cell_keep hb h.2.2.2.1, cell_keep hb h.2.2.2.2.1, cell_keep hb h.2.2.2.2.2⟩
def RpS (Q gm : Nat) (uv : Value) (m0 M : Mo) (w' : World) : Prop := w'.cell? ⟨Q, 4, none⟩ = some uv ∧ SR Q gm m0 M w'
def RpC (W : World) (us : List (Mo × Mo)) (x : Mo × Mo) : List Value → List Ob → World → Prop
  | [], Y, w' => Below W.heap.size W w' ∧ ∀ o ∈ Y, o.P w'
  | [v0], Y, w' => (Below W.heap.size W w' ∧ ∀ o ∈ Y, o.P w') ∧ ∃ g0, v0 = .slice (some ⟨g0, 0, none⟩) 0 0
  | [v1, _], Y, w' => (Below W.heap.size W w' ∧ ∀ o ∈ Y, o.P w') ∧ NR W.heap.size w' v1 us
  | [v2, _, _], _, w' => Below W.heap.size W w' ∧ w'.ownsRow W.heap.size 179 6 v2 (us.length + 1) (rows chC (us ++ [x]))
  | _, _, _ => False
def RpV (us : List (Mo × Mo)) : List Value → Value → Prop
  | [], v => ∃ g0, v = .slice (some ⟨g0, 0, none⟩) 0 0
  | [_], v => ∃ a c, v = .slice a us.length c
  | _, v => ∃ a c, v = .slice a (us.length + 1) c
theorem RpC.below {W : World} {us : List (Mo × Mo)} {x : Mo × Mo} {k : List Value} {Y : List Ob} {w' : World} (h : RpC W us x k Y w') : Below W.heap.size W w' := by
  match k, h with
  | [], h => exact h.1
  | [v0], h => exact h.1.1
  | [v1, _], h => exact h.1.1
  | [v2, _, _], h => exact h.1
theorem RpC.alloc {W : World} {us : List (Mo × Mo)} {x : Mo × Mo} (k : List Value) (Y : List Ob) (w' : World) (cs : List Value) (ty : TypeId) (h : RpC W us x k Y w') : RpC W us x k (bk w'.heap.size cs ty :: Y) (w'.alloc (.cells cs.toArray ty)) := by
  have hb : Below w'.heap.size w' (w'.alloc (.cells cs.toArray ty)) := (Below.refl _ _).alloc (Nat.le_refl _) _
  have hY : (∀ o ∈ Y, o.P w') → ∀ o ∈ bk w'.heap.size cs ty :: Y, o.P (w'.alloc (.cells cs.toArray ty)) := fun hy o ho => by
    rcases List.mem_cons.1 ho with rfl | ho
    · exact Blk.new w' cs ty
    · exact o.loc w' _ (hy o ho) (fun b hb' => hb.block b (o.here w' (hy o ho) b hb'))
  match k, h with
  | [], h => exact ⟨bthen h.1 hb, hY h.2⟩
  | [v0], h => exact ⟨⟨bthen h.1.1 hb, hY h.1.2⟩, h.2⟩
  | [v1, _], h => exact ⟨⟨bthen h.1.1 hb, hY h.1.2⟩, h.2.below hb⟩
  | [v2, _, _], h => exact ⟨bthen h.1 hb, own_keepB h.2 hb⟩
theorem RpC.perm {W : World} {us : List (Mo × Mo)} {x : Mo × Mo} (k : List Value) (Y Z : List Ob) (w' : World) (hp : Y.Perm Z) (h : RpC W us x k Y w') : RpC W us x k Z w' := by
  match k, h with
  | [], h => exact ⟨h.1, fun o ho => h.2 o (hp.mem_iff.2 ho)⟩
  | [v0], h => exact ⟨⟨h.1.1, fun o ho => h.1.2 o (hp.mem_iff.2 ho)⟩, h.2⟩
  | [v1, _], h => exact ⟨⟨h.1.1, fun o ho => h.1.2 o (hp.mem_iff.2 ho)⟩, h.2⟩
  | [v2, _, _], h => exact h
section
variable {B : Nat} {w0 w : World} {Q : Nat} {ar : Bool} {l : List Ob} {E : RE} {L : List (Value × List (Mo × Mo))}
set_option maxRecDepth 100000 in
set_option maxHeartbeats 16000000 in
theorem rreplace_none (h : EdAt B w0 Q ar l E L w) (a : Nat) :
    Calls Tryz.prog 122 #[.pointer (some ⟨Q, 0, none⟩), .int .i64 (a : Int), .int .i64 (a : Int), .string ⟨#[]⟩] w fun e w' => e = .returned (.tuple #[]) ∧ w = w' := by
  clear h
  go_enter Tryz.func122, Tryz.ntmps122
  go_wp2_with fail
  refine bodyPost_ret (results_none (by kernel_rfl) _ _ _) rfl ?_
  exact ⟨rfl, rfl⟩
set_option maxRecDepth 100000 in
set_option maxHeartbeats 16000000 in
theorem rreplace_ne (h : EdAt B w0 Q ar l E L w) (a b : Nat) (y : List UInt8) (hne0 : a ≠ b) (hab : a ≤ b) (hb : b ≤ nL E.now.val) (hvd : Vd E.now.val) (hy : Vd y) (hn : E.now.val.length ≤ 100000) (hyn : y.length ≤ 100000) (hul : E.undo.length ≤ 100) :
    Calls Tryz.prog 122 #[.pointer (some ⟨Q, 0, none⟩), .int .i64 (a : Int), .int .i64 (b : Int), .string ⟨y.toArray⟩] w fun e w' => e = .returned (.tuple #[]) ∧ ∃ L', L ⊆ L' ∧ EdAt B w0 Q ar l (E.rep a b y) L' w' := by
  have hne : ¬ (a = b ∧ y = []) := fun e => hne0 e.1
  have HP := Lib.hid (rpoints_any E.now.val hvd w (by omega))
  have HLe := Lib.hid (fun wx => rlen_any y hy wx (by omega))
  have q1 := h.blk.2.1
  have HE := Lib.hid h
  have hnn := nL_le E.now.val
  have hny := nL_le y
  have e1 : ((a : Int) == (b : Int)) = false := by simp; omega
  clear h
  go_enter Tryz.func122, Tryz.ntmps122
  go_upto_region 3 with (first
    | (refine HP.out.mono ?_
       rintro e w1 ⟨vl, rfl, ho, hb1⟩
       obtain ⟨pa, pc, rfl⟩ := own_shapeB ho
       have HO := Lib.hid ho
       have HB1 := Lib.hid hb1
       clear ho hb1)
    | (refine (HLe.out _).mono ?_
       rintro e w2 ⟨rfl, hb2⟩))
  have hown := HO.out
  obtain ⟨P, hP⟩ : ∃ P, ptsL E.now.val = P := ⟨_, rfl⟩
  have hpl : P.length = nL E.now.val := by rw [← hP]; rfl
  have e0 : (P.take a).flatten = cutL E.now.val 0 a := by rw [← hP]; unfold cutL joinL; simp
  have e9 : (P.drop b).flatten = cutL E.now.val b (nL E.now.val) := by
    rw [← hP]
    unfold cutL joinL
    rw [List.take_of_length_le (show (ptsL E.now.val).length ≤ nL E.now.val from Nat.le_refl _)]
  have hPf : E.now.val = P.flatten := by rw [← hP]; exact (pts_flat _).symm
  have hc1 := cut_len E.now.val 0 a
  have hc2 := cut_len E.now.val b (nL E.now.val)
  rw [hP] at hown
  have hE2 := HE.out.still (bthen HB1.out hb2)
  have HE2 := Lib.hid hE2
  have hown2 := own_keepB hown hb2
  have HOw := Lib.hid hown2
  rw [hP, hpl]
  clear HO HE HP HB1 hown hown2 hE2 hb2 q1 hP
  go_cut [8, 10] (fun u8 v wx => ∃ gm, v = .pointer (some ⟨gm, 0, none⟩) ∧ Below w2.heap.size w2 wx ∧ Blk wx gm [strV (cutL E.now.val 0 a ++ (y ++ cutL E.now.val b (nL E.now.val))), .int .i64 ((a + nL y : Nat) : Int), .int .i64 ((a + nL y : Nat) : Int)] 48 ∧ w2.heap.size ≤ gm)
  case first =>
    have hfp : P.flatten.length ≤ 100000 := by rw [← hPf]; exact hn
    obtain ⟨pf, hpf⟩ : ∃ pf : Nat → Nat → List UInt8, ∀ k m, pf k m = ((P.drop k).take m).flatten := ⟨_, fun _ _ => rfl⟩
    have f0 : pf 0 a = cutL E.now.val 0 a := by rw [hpf, List.drop_zero]; exact e0
    have fb : pf b (nL E.now.val - b) = cutL E.now.val b (nL E.now.val) := by rw [hpf, List.take_of_length_le (by rw [List.length_drop]; omega)]; exact e9
    have f00 : ∀ k, pf k 0 = [] := fun k => by rw [hpf]; rfl
    rw [← f0] at hc1
    rw [← fb] at hc2
    have HF := Lib.hid (And.intro f0 (And.intro fb f00))
    have hs1 : ¬ 9223372036854775807 < (pf 0 a).length + y.length := by omega
    have hs2 : ¬ 9223372036854775807 < (pf 0 a).length + y.length + (pf b (nL E.now.val - b)).length := by omega
    have hs3 : ¬ 9223372036854775807 < (pf 0 a).length + y.length + (pf 0 0).length := by rw [f00]; simp only [List.length_nil]; omega
    have hw2 := HOw.out.2
    have ha0 : (0 : Int) ≤ (a : Int) + (nL y : Int) := by omega
    rcases hw2 with ⟨hpa, hn0⟩ | ⟨g, cap, cur, hpa, _, _, hncap, hcap, _⟩
    · simp only [Value.slice.injEq] at hpa
      obtain ⟨rfl, hn9, hpc⟩ := hpa
      have hac : a ≤ pc := by omega
      have hbl : b ≤ pc := by omega
      have hncap : nL E.now.val ≤ pc := by omega
      have HPn := Lib.hid (fun (m c : Nat) wx (hm : m ≤ nL E.now.val) => show Calls Tryz.prog 149 #[.slice none m c] wx fun e w' => e = .returned (.string ⟨(pf 0 m).toArray⟩) ∧ wx = w' from by
        obtain rfl : m = 0 := by omega
        rw [f00]
        exact part_any none [] c wx (fun h => by simp at h) (by simp) (by simp))
      have HZ := Lib.hid (show pf 0 (nL E.now.val - b) = pf b (nL E.now.val - b) from by
        rw [show nL E.now.val - b = 0 by omega, f00, f00])
      have hs4 : ¬ 9223372036854775807 < (pf 0 a).length + y.length + (pf 0 (nL E.now.val - b)).length := by
        rw [show nL E.now.val - b = 0 by omega]; exact hs3
      clear HOw hpf HE2 e0 e9 f0 fb f00 hc1 hc2 hfp hPf hn9 hpc hn0
      go_region_law (go_simp; go_at_call 149; (refine (HPn.out _ _ _ (by omega)).mono ?_; rintro e wy ⟨rfl, rfl⟩))
      all_goals
        go_wp2_with fail
        go_meet
        refine ⟨_, rfl, (below_alloc (Below.refl _ _) _).drew, ?_, Nat.le_refl _⟩
        rw [← HF.out.1, ← HF.out.2.1, ← HZ.out]
        exact box_is w2 _ _ _ _ _
    · simp only [Value.slice.injEq] at hpa
      obtain ⟨rfl, _, rfl⟩ := hpa
      rw [hpl] at hncap
      have hac : a ≤ pc := by omega
      have hst : ∀ (j : Nat) (x : List UInt8), P[j]? = some x → w2.cell? ⟨g, j, none⟩ = some (.string ⟨x.toArray⟩) := fun j x hj => by
        rw [HOw.out.cellAt j (by have := (List.getElem?_eq_some_iff.1 hj).1; omega)]
        simp [sC, strV, hj]
      have HPa := Lib.hid (fun (k m c : Nat) wx (hb : Below w2.heap.size w2 wx) (hkm : k + m ≤ nL E.now.val) => show Calls Tryz.prog 149 #[.slice (some ⟨g, k, none⟩) m c] wx fun e w' => e = .returned (.string ⟨(pf k m).toArray⟩) ∧ wx = w' from by
        have hl : ((P.drop k).take m).length = m := by rw [List.length_take, List.length_drop]; omega
        have := part_any (some ⟨g, k, none⟩) ((P.drop k).take m) c wx (fun _ => ⟨g, k, rfl, fun j x hj => by
          have hjm : j < m := by have := (List.getElem?_eq_some_iff.1 hj).1; omega
          rw [List.getElem?_take_of_lt hjm, List.getElem?_drop] at hj
          exact cell_keep hb (hst _ x hj)⟩) (by omega) (by
            have h1 := flat_len (P.drop k) m
            have h2 := congrArg (fun x : List (List UInt8) => x.flatten.length) (List.take_append_drop k P)
            simp only [List.flatten_append, List.length_append] at h2
            omega)
        rw [hl] at this
        rw [hpf]
        exact this)
      have hbl : b ≤ pc := by omega
      have HPc := Lib.hid (fun (A : Option Addr) (m c : Nat) (x : List UInt8) wx (hbz : Below w2.heap.size w2 wx) (h : (A = some ⟨g, 0, none⟩ ∧ m = a ∧ x = pf 0 a) ∨ (A = (if pc = b then some ⟨g, 0, none⟩ else some ⟨g, b, none⟩) ∧ m = nL E.now.val - b ∧ x = pf b (nL E.now.val - b))) => show Calls Tryz.prog 149 #[.slice A m c] wx fun e w' => e = .returned (.string ⟨x.toArray⟩) ∧ wx = w' from by
        rcases h with ⟨rfl, rfl, rfl⟩ | ⟨rfl, rfl, rfl⟩
        · exact HPa.out _ _ _ _ hbz (by omega)
        · by_cases e : pc = b
          · rw [if_pos e]
            have h0 : nL E.now.val - b = 0 := by omega
            have := HPa.out 0 0 c wx hbz (by omega)
            rw [h0, HF.out.2.2]
            rwa [HF.out.2.2] at this
          · rw [if_neg e]
            exact HPa.out _ _ _ _ hbz (by omega))
      clear hst HOw hpf HE2 e0 e9 f0 fb f00 hc1 hc2 hfp hPf HPa
      go_region_law (go_simp; go_at_call 149; (refine (HPc.out _ _ _ _ _ (by first | exact (Below.refl _ _).drew | exact (below_alloc (Below.refl _ _) _).drew) (by first | exact .inl ⟨rfl, rfl, rfl⟩ | exact .inr ⟨rfl, rfl, rfl⟩)).mono ?_; rintro e wy ⟨rfl, rfl⟩))
      all_goals (go_wp2_with fail)
      all_goals
        go_meet
        refine ⟨_, rfl, (below_alloc (Below.refl _ _) _).drew, ?_, Nat.le_refl _⟩
        rw [← HF.out.1, ← HF.out.2.1]
        exact box_is w2 _ _ _ _ _
  case rest =>
    obtain ⟨gm, rfl, hbw, hbm, hgm⟩ := hcut
    have hE3 := HE2.out.still hbw
    obtain ⟨uv, rv, hA2, hmu, hmr⟩ := HE2.out
    have hA3 := hA2.new (o := bk gm [strV (cutL E.now.val 0 a ++ (y ++ cutL E.now.val b (nL E.now.val))), .int .i64 ((a + nL y : Nat) : Int), .int .i64 ((a + nL y : Nat) : Int)] 48) hbm hbw (fun k hk => by rw [← (show gm = k from hk.symm)]; exact hgm)
    have hz : ∃ M : Mo, M = ⟨cutL E.now.val 0 a ++ (y ++ cutL E.now.val b (nL E.now.val)), a + nL y, a + nL y⟩ := ⟨_, rfl⟩
    obtain ⟨M, hM⟩ := hz
    have hA4 : All B w0 (bk gm (moC M) 48 :: bk Q (edC ar E uv rv) 51 :: co L :: l) wc := by rw [hM]; exact hA3
    have hHE : E.rep a b y = ⟨M, keepE (E.undo ++ [(E.now, M)]), []⟩ := by
      unfold RE.rep
      rw [if_neg hne, hM]
    have HHE := Lib.hid hHE
    have hRu : Rd wc uv E.undo := (show ∀ p ∈ L, Rd wc p.1 p.2 from hA4.tail.tail.head) _ hmu
    obtain ⟨ua, uc, rfl⟩ := hRu.shape
    have hbx : Blk wc gm (moC M) 48 := hA4.head
    have hbq : Blk wc Q (edC ar E (.slice ua E.undo.length uc) rv) 51 := hA4.tail.head
    have HA4 := Lib.hid hA4
    have HM := Lib.hid (And.intro hmu hmr)
    have HR := Lib.hid hRu
    have hQW := hbq.lt
    have hgW := hbx.lt
    have hgq : Q ≠ gm := by
      have := hA2.head.lt
      omega
    have q1 := hbq.cell 1
    have q2 := hbq.cell 2
    have q3 := hbq.cell 3
    have q4 := hbq.cell 4
    have b0 := hbx.cell 0
    have b1 := hbx.cell 1
    have b2 := hbx.cell 2
    simp only [edC, moC, strV, List.getElem?_cons_succ, List.getElem?_cons_zero] at q1 q2 q3 q4 b0 b1 b2
    have HBQ := Lib.hid hbq
    have HS0 := Lib.hid (show SR Q gm E.now M wc from ⟨q1, q2, q3, b0, b1, b2⟩)
    have eq1 : ∀ o, (wc.alloc o).cell? ⟨Q, 4, none⟩ = some (.slice ua E.undo.length uc) := fun o => (World.cell?_alloc_lt _ _ _ hQW).trans q4
    have eq2 : ∀ o o', ((wc.alloc o).alloc o').cell? ⟨Q, 4, none⟩ = some (.slice ua E.undo.length uc) := fun o o' => (World.cell?_alloc_lt _ _ _ (by simp; omega)).trans (eq1 o)
    clear hA2 hA3 hA4 hbx hbq hRu hmu hmr hE3 hM hHE hbw hbm hgm e0 e9 hPf hc1 hc2 HE2 HOw HLe hb hne hnn hny hn hyn
    generalize E.now = m0 at *
    go_upto_region 4 with fail
    go_cut [] (fun wx => ∃ va vc w6, wx = w6.setCell ⟨Q, 4, none⟩ (.slice va (E.undo.length + 1) vc) ∧ Below wc.heap.size wc w6 ∧ w6.ownsRow wc.heap.size 179 6 (.slice va (E.undo.length + 1) vc) (E.undo.length + 1) (rows chC (E.undo ++ [(m0, M)])))
    case first =>
      have hS1 : ∀ k Y wx, RpC wc E.undo (m0, M) k Y wx → RpS Q gm (.slice ua E.undo.length uc) m0 M wx := fun k Y wx hC => by
        have hb := hC.below
        exact ⟨cell_keep hb q4, HS0.out.below hb⟩
      have y0 : ∀ x1 : InS (RpS Q gm (.slice ua E.undo.length uc) m0 M), x1.w.cell? ⟨Q, 4, none⟩ = some (.slice ua E.undo.length uc) := fun x1 => x1.h.1
      have y1 : ∀ x1 : InS (RpS Q gm (.slice ua E.undo.length uc) m0 M), x1.w.cell? ⟨Q, 1, none⟩ = some (.string ⟨m0.val.toArray⟩) := fun x1 => x1.h.2.1
      have y2 : ∀ x1 : InS (RpS Q gm (.slice ua E.undo.length uc) m0 M), x1.w.cell? ⟨Q, 2, none⟩ = some (.int .i64 (m0.st : Int)) := fun x1 => x1.h.2.2.1
      have y3 : ∀ x1 : InS (RpS Q gm (.slice ua E.undo.length uc) m0 M), x1.w.cell? ⟨Q, 3, none⟩ = some (.int .i64 (m0.en : Int)) := fun x1 => x1.h.2.2.2.1
      have y4 : ∀ x1 : InS (RpS Q gm (.slice ua E.undo.length uc) m0 M), x1.w.cell? ⟨gm, 0, none⟩ = some (.string ⟨M.val.toArray⟩) := fun x1 => x1.h.2.2.2.2.1
      have y5 : ∀ x1 : InS (RpS Q gm (.slice ua E.undo.length uc) m0 M), x1.w.cell? ⟨gm, 1, none⟩ = some (.int .i64 (M.st : Int)) := fun x1 => x1.h.2.2.2.2.2.1
      have y6 : ∀ x1 : InS (RpS Q gm (.slice ua E.undo.length uc) m0 M), x1.w.cell? ⟨gm, 2, none⟩ = some (.int .i64 (M.en : Int)) := fun x1 => x1.h.2.2.2.2.2.2
      have hne : Nonempty (InS (RpS Q gm (.slice ua E.undo.length uc) m0 M)) := ⟨⟨wc, q4, HS0.out⟩⟩
      clear q1 q2 q3 q4 b0 b1 b2 eq1 eq2
      refine RZ.reg_m ⟨RpS Q gm (.slice ua E.undo.length uc) m0 M, RpC wc E.undo (m0, M), RpV E.undo, fun _ g => .slice (some ⟨g, 0, none⟩) 1 1, fun _ => chC (m0, M), fun _ => 179⟩ 17 (by kernel_rfl) (by kernel_rfl) hS1 RpC.alloc RpC.perm ⟨(Below.refl _ _).drew, fun o ho => by cases ho⟩ ?_
      simp only [List.take_succ_cons, List.take_zero, List.drop_succ_cons, List.drop_zero]
      repeat (first
        | (refine RZ.m_held (by rfl) (by rfl) (fun K hK => ?_); go_big_quiet_step (fail); refine wpQuiet_nil ?_; refine hK.out _ ?_; clear hK K)
        | (refine RZ.m_skip (by rfl) ?_; simp only [Act.put, List.setIfInBounds_toArray, List.set_cons_zero, List.set_cons_succ]))
      refine RZ.m_app (by rfl) (by rfl) ⟨_, 0, rfl⟩ ?_ ?_
      · intro Y wx hx
        exact ⟨.slice (some ⟨wx.heap.size, 0, none⟩) 0 0, wx.alloc (.cells #[] 179), by go_simp, ⟨_, rfl⟩, ⟨below_alloc hx.1 _, fun o ho => o.loc wx _ (hx.2 o ho) (fun b hb => ((Below.refl _ _).alloc (Nat.le_refl _) _).block b (o.here wx (hx.2 o ho) b hb))⟩, _, rfl⟩
      rintro v ⟨g0, rfl⟩
      simp only [Act.put, List.setIfInBounds_toArray, List.set_cons_zero, List.set_cons_succ]
      repeat (first
        | (refine RZ.m_held (by rfl) (by rfl) (fun K hK => ?_); go_big_quiet_step (fail); refine wpQuiet_nil ?_; refine hK.out _ ?_; clear hK K)
        | (refine RZ.m_skip (by rfl) ?_; simp only [Act.put, List.setIfInBounds_toArray, List.set_cons_zero, List.set_cons_succ]))
      refine RZ.m_app (by rfl) (by rfl) ⟨_, none, 0, rfl⟩ ?_ ?_
      · intro Y wx hx
        obtain ⟨v', w', hr, hb, hn⟩ := run_append_new (P := Tryz.prog) (ty := 49) etC wx ⟨g0, 0, none⟩ (HR.out.below hx.1.1) (by omega) (by omega)
        exact ⟨v', w', exec_append rfl rfl rfl hr, hn.shape, ⟨bthen hx.1.1 hb, fun o ho => o.loc wx _ (hx.1.2 o ho) (fun b hb' => hb.block b (o.here wx (hx.1.2 o ho) b hb'))⟩, hn.imp id (fun h => own_low h hx.1.1.size)⟩
      rintro v ⟨na, nc, rfl⟩
      simp only [Act.put, List.setIfInBounds_toArray, List.set_cons_zero, List.set_cons_succ]
      repeat (first
        | (refine RZ.m_held (by rfl) (by rfl) (fun K hK => ?_); go_big_quiet_step (fail); refine wpQuiet_nil ?_; refine hK.out _ ?_; clear hK K)
        | (refine RZ.m_skip (by rfl) ?_; simp only [Act.put, List.setIfInBounds_toArray, List.set_cons_zero, List.set_cons_succ]))
      refine RZ.m_made (fun g => .slice (some ⟨g, 0, none⟩) 1 1) (chC (m0, M)) 179 rfl rfl rfl (by rfl) (by rfl) (fun w => by go_simp; rfl) ?_
      intro gy
      simp only [Act.put, List.setIfInBounds_toArray, List.set_cons_zero, List.set_cons_succ]
      refine RZ.m_appX (by rfl) (by rfl) ⟨_, none, 0, rfl⟩ ?_ ?_
      · intro Y wx hY hx
        have hbk : Blk wx gy (chC (m0, M)) 179 := hx.1.2 (bk gy (chC (m0, M)) 179) (hY _ (List.mem_cons_self ..))
        obtain ⟨v', w', hr, hb, hn⟩ := run_append_more (P := Tryz.prog) (ty := 49) etC hx.1.1.size hx.2 (x := (m0, M)) (gy := gy) (fun j u hj => (hbk.cell j).trans hj) (by omega) (by omega)
        exact ⟨v', w', exec_append rfl rfl rfl hr, own_shapeB hn, hx.1.1.trans hb, hn⟩
      rintro v ⟨va, vc, rfl⟩
      simp only [Act.put, List.setIfInBounds_toArray, List.set_cons_zero, List.set_cons_succ]
      repeat (first
        | (refine RZ.m_held (by rfl) (by rfl) (fun K hK => ?_); go_big_quiet_step (fail); refine wpQuiet_nil ?_; refine hK.out _ ?_; clear hK K)
        | (refine RZ.m_skip (by rfl) ?_; simp only [Act.put, List.setIfInBounds_toArray, List.set_cons_zero, List.set_cons_succ]))
      refine RZ.m_nil ?_
      intro w6 hC6
      obtain ⟨hb6, hr6⟩ := hC6
      have HB6 := Lib.hid hb6
      have HR6 := Lib.hid hr6
      have s5 := (HBQ.out.below hb6).cell 4
      have s6 := (HBQ.out.below hb6).free 4
      simp only [edC, List.getElem?_cons_succ, List.getElem?_cons_zero] at s5
      clear hb6 hr6
      go_wp2_with fail
      go_meet
      exact ⟨va, vc, _, rfl, HB6.out, HR6.out⟩
    case rest =>
      obtain ⟨va, vc, w6, rfl, hb6, hr6⟩ := hcut
      have hlp : (E.undo ++ [(m0, M)]).length = E.undo.length + 1 := by simp
      obtain ⟨hr7, hr8⟩ := Rd.own (cs := E.undo ++ [(m0, M)]) (by rw [hlp]; exact hr6)
      obtain ⟨g7, o7, c7, e7, hc7, hm7, _⟩ := hr7.full (by simp)
      rw [hlp] at e7 hc7
      simp only [Value.slice.injEq] at e7
      obtain ⟨rfl, _, rfl⟩ := e7
      have hA6 := All.coNew [bk gm (moC M) 48, bk Q (edC ar E (.slice ua E.undo.length uc) rv) 51] HA4.out hb6 hr7 hr8
      have hA7 := All.setBk [bk gm (moC M) 48] hA6 4 (.slice (some ⟨g7, o7, none⟩) (E.undo.length + 1) vc)
      have hA8 : All B w0 (bk gm (moC M) 48 :: bk Q (edC ar E (.slice (some ⟨g7, o7, none⟩) (E.undo.length + 1) vc) rv) 51 :: co ((.slice (some ⟨g7, o7, none⟩) (E.undo.length + 1) vc, E.undo ++ [(m0, M)]) :: L) :: l) (w6.setCell ⟨Q, 4, none⟩ (.slice (some ⟨g7, o7, none⟩) (E.undo.length + 1) vc)) := hA7
      clear hA6 hA7 hr6 hr7 hr8 hb6 eq1 eq2 q1 q2 q3 q4 b0 b1 b2 HR HA4 HBQ HS0 hQW hgW hvd hpl
      generalize w6.setCell ⟨Q, 4, none⟩ (.slice (some ⟨g7, o7, none⟩) (E.undo.length + 1) vc) = w7 at *
      have hbq : Blk w7 Q (edC ar E (.slice (some ⟨g7, o7, none⟩) (E.undo.length + 1) vc) rv) 51 := hA8.tail.head
      have hr9 : Rd w7 (.slice (some ⟨g7, o7, none⟩) (E.undo.length + 1) vc) (E.undo ++ [(m0, M)]) := (show ∀ p ∈ ((Value.slice (some ⟨g7, o7, none⟩) (E.undo.length + 1) vc, E.undo ++ [(m0, M)]) :: L), Rd w7 p.1 p.2 from hA8.tail.tail.head) _ (List.mem_cons_self ..)
      have HR9 := Lib.hid hr9
      have HA8 := Lib.hid hA8
      have q4 := hbq.cell 4
      have f4 := hbq.free 4
      simp only [edC, List.getElem?_cons_succ, List.getElem?_cons_zero] at q4
      clear hbq hr9 hA8
      go_upto_if 64 with fail
      go_cut [] (fun wx => ∃ uv' L', L ⊆ L' ∧ All B w0 (bk gm (moC M) 48 :: bk Q (edC ar E uv' rv) 51 :: co L' :: l) wx ∧ (uv', keepE (E.undo ++ [(m0, M)])) ∈ L')
      case first =>
        by_cases hfull : E.undo.length = 100
        · have hk : keepE (E.undo ++ [(m0, M)]) = (E.undo ++ [(m0, M)]).drop 1 := by unfold keepE; rw [hlp, hfull]
          obtain ⟨c0, cs0, hcs⟩ : ∃ c0 cs0, E.undo ++ [(m0, M)] = c0 :: cs0 := by
            cases hu : E.undo with
            | nil => rw [hu] at hfull; simp at hfull
            | cons x xs => exact ⟨x, xs ++ [(m0, M)], rfl⟩
          have hrs : Rd w7 (.slice (some ⟨g7, o7 + 1 * 6, none⟩) (E.undo.length + 1 - 1) (vc - 1)) cs0 := Rd.shift (x := c0) (by rw [← hcs]; exact HR9.out)
          have hA9 := All.coAdd [bk gm (moC M) 48, bk Q (edC ar E (.slice (some ⟨g7, o7, none⟩) (E.undo.length + 1) vc) rv) 51] HA8.out hrs (fun k hk => ⟨_, List.mem_cons_self .., rdF_up (a := ⟨g7, o7, none⟩) (n := E.undo.length + 1 - 1) (c := vc - 1) (by cases hz : E.undo.length + 1 - 1 with
            | zero => rw [hz] at hk; exact hk.elim
            | succ n => rw [hz] at hk; exact hk) (by omega)⟩)
          have hA10 := All.setBk [bk gm (moC M) 48] hA9 4 (.slice (some ⟨g7, o7 + 1 * 6, none⟩) (E.undo.length + 1 - 1) (vc - 1))
          have HA10 := Lib.hid hA10
          rw [hcs, List.drop_succ_cons, List.drop_zero] at hk
          rw [hfull] at HA10 q4 hc7
          have hv1 : ¬ vc = 1 := by omega
          have hv0 : 1 ≤ vc := by omega
          have HCS := Lib.hid (And.intro hk hcs)
          clear hA9 hA10 hrs hk hcs HR9 HA8
          go_wp2_with fail
          all_goals first
            | omega
            | (go_meet
               refine ⟨_, _, fun p hp => List.mem_cons_of_mem _ (List.mem_cons_of_mem _ hp), HA10.out, ?_⟩
               rw [HCS.out.2, HCS.out.1]
               exact List.mem_cons_self ..)
        · have hk : keepE (E.undo ++ [(m0, M)]) = E.undo ++ [(m0, M)] := by
            unfold keepE
            rw [hlp, show E.undo.length + 1 - 100 = 0 by omega, List.drop_zero]
          go_wp2_with fail
          all_goals first
            | omega
            | (go_meet
               refine ⟨_, _, fun p hp => List.mem_cons_of_mem _ hp, HA8.out, ?_⟩
               rw [hk]
               exact List.mem_cons_self ..)
      case rest =>
        obtain ⟨uv', L', hsub, hA, hmem⟩ := hcut
        have hA1 := All.coAdd [bk gm (moC M) 48, bk Q (edC ar E uv' rv) 51] hA (Rd.nil _) (fun k hk => hk.elim)
        have HA1 := Lib.hid hA1
        have hbx : Blk wc gm (moC M) 48 := hA.head
        have hbq : Blk wc Q (edC ar E uv' rv) 51 := hA.tail.head
        have b0 := hbx.cell 0
        have b1 := hbx.cell 1
        have b2 := hbx.cell 2
        simp only [moC, strV, List.getElem?_cons_succ, List.getElem?_cons_zero] at b0 b1 b2
        have q1 := hbq.cell 1
        have q2 := hbq.cell 2
        have q3 := hbq.cell 3
        have q5 := hbq.cell 5
        have f1 := hbq.free 1
        have f2 := hbq.free 2
        have f3 := hbq.free 3
        have f5 := hbq.free 5
        simp only [edC, strV, List.getElem?_cons_succ, List.getElem?_cons_zero] at q1 q2 q3 q5
        have HX := Lib.hid (And.intro hsub hmem)
        clear hA1 hA hbx hbq hsub hmem q4 f4 HA8 HR9
        go_wp2_with fail
        go_end0
        have h1 := All.setBk [bk gm (moC M) 48] HA1.out 5 (.slice none 0 0)
        have h2 := All.setBk [bk gm (moC M) 48] h1 1 (strV M.val)
        have h3 := All.setBk [bk gm (moC M) 48] h2 2 (.int .i64 (M.st : Int))
        have h4 := All.setBk [bk gm (moC M) 48] h3 3 (.int .i64 (M.en : Int))
        refine ⟨rfl, (.slice none 0 0, []) :: L', fun p hp => List.mem_cons_of_mem _ (HX.out.1 hp), uv', .slice none 0 0, ?_, ?_, ?_⟩
        · rw [HHE.out]
          exact h4.tail
        · rw [HHE.out]
          exact List.mem_cons_of_mem _ HX.out.2
        · rw [HHE.out]
          exact List.mem_cons_self ..
end
end Go.Proofs.YtacdbnhnhdlmpaaGreatDoor.W
end
