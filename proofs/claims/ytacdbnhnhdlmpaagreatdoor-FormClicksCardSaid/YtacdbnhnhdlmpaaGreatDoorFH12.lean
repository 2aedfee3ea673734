/- Texts joined: ClP ClL InB. -/
import Derived.Test.YtacdbnhnhdlmpaaGreatDoorFH11
import Derived.Lib.SmallJoins
import Derived.Deep.Slices
import Derived.LoopTactic
set_option maxRecDepth 100000
set_option maxHeartbeats 40000000
set_option linter.unusedVariables false
set_option linter.unusedSimpArgs false
section
namespace Go.Proofs.YtacdbnhnhdlmpaaGreatDoor.W
open Go.RowKit
def PlX (X : List FX) : Prop := ∀ x ∈ X, x.uv = .slice none 0 0 ∧ x.rv = .slice none 0 0 ∧ x.t.undo = [] ∧ x.t.redo = []
theorem PlX.get {X : List FX} (h : PlX X) (a : Int) : (getX X a).uv = .slice none 0 0 ∧ (getX X a).rv = .slice none 0 0 ∧ (getX X a).t.undo = [] ∧ (getX X a).t.redo = [] := by
  cases e : fixX X a with
  | none => rw [(fix_none e).2]; exact ⟨rfl, rfl, rfl, rfl⟩
  | some i => exact h _ (List.mem_of_getElem? (fix_some e).2.1)
theorem PlX.touch {X : List FX} (h : PlX X) (a : Int) (on : Bool) : PlX (touX X a on) := fun x hx => by
  rcases up_mem hx with e | e
  · rw [e]; exact h.get a
  · exact h x e
theorem PlX.touL {X : List FX} (h : PlX X) (l : List Int) : PlX (Go.Proofs.YtacdbnhnhdlmpaaGreatDoor.W.touL X l) := by
  induction l generalizing X with
  | nil => exact h
  | cons a l ih => exact ih (h.touch a false)
theorem PlX.setX {G : Int → List Int} {rd : Int → Bool} {X : List FX} (h : PlX X) (a : Int) (on : Bool) : PlX (Go.Proofs.YtacdbnhnhdlmpaaGreatDoor.W.setX G rd X a on) := by
  unfold Go.Proofs.YtacdbnhnhdlmpaaGreatDoor.W.setX
  split
  · exact (h.touch a on).touL _
  · exact h.touch a on
theorem uX_cp {X X' : List FX} (h : Cp X X') : uX X' = uX X := by
  funext a
  cases e : fixX X a with
  | none =>
    obtain ⟨h1, h2⟩ := fix_none e
    have e' : fixX X' a = none := by
      unfold fixX
      rw [List.findIdx?_eq_none_iff]
      intro x hx
      obtain ⟨j, hj⟩ := List.mem_iff_getElem?.1 hx
      have hjl : j < X.length := by rw [← h.1]; exact (List.getElem?_eq_some_iff.1 hj).1
      obtain ⟨u, r, q⟩ := h.2 j X[j] (List.getElem?_eq_getElem hjl)
      rw [hj] at q
      cases q
      have := h1 X[j] (List.getElem_mem hjl)
      simpa using this
    unfold uX
    rw [h2, (fix_none e').2]
  | some i =>
    obtain ⟨h1, h2, h3, h4⟩ := fix_some e
    obtain ⟨u, r, q⟩ := h.2 i _ h2
    have e' : fixX X' a = some i := fix_of q h3 (fun j y hj hy => by
      have hjl : j < X.length := by omega
      obtain ⟨u', r', q'⟩ := h.2 j X[j] (List.getElem?_eq_getElem hjl)
      rw [hy] at q'
      cases q'
      exact h4 j X[j] hj (List.getElem?_eq_getElem hjl))
    have g := (fix_some e').2.1
    rw [q] at g
    unfold uX
    rw [← Option.some.inj g]
section
variable {B R Q : Nat} {S : Tr} {sv fv fa : Value} {w w0 : World} {K : Nat → List Nat} {d : Nat → Nat} {X : List FX} {foc : Int} {l : List Ob}
theorem doc_clone (h : All B w0 (fsL Q fa foc X ++ l) w) (hp : PlX X) (hX : X.length ≤ 100000) :
    Calls Tryz.prog 41 #[.pointer (some ⟨Q, 0, none⟩)] w fun e w' => ∃ fa' X', e = .returned (.agg #[fa', .int .i64 foc]) ∧ uX X' = uX X ∧ X'.length = X.length ∧ (∃ a n c, fa' = .slice a n c) ∧ All B w0 (fsL w'.heap.size fa' foc X' ++ (fsL Q fa foc X ++ l)) (w'.alloc (.cells #[fa', .int .i64 foc] 30)) := by
  have h1 : All B w0 (fsL Q fa foc X ++ ro 126 5 (.slice none 0 0) 0 [] :: l) w :=
    (h.new (o := ro 126 5 (.slice none 0 0) 0 []) (Ro.nil _ _ _) (Below.refl _ _) (fun k hk => hk.elim)).perm List.perm_middle.symm
  refine (clone_any h1 hX (fun x hx o ho => ?_) (fun x hx => ?_)).mono ?_
  · obtain ⟨e1, e2, e3, e4⟩ := hp x hx
    unfold fxO at ho
    rw [e1, e2, e3, e4] at ho
    have : o = ro 126 5 (.slice none 0 0) 0 [] := by simpa [rows] using ho
    rw [this]
    exact List.mem_cons_self
  · obtain ⟨e1, e2, e3, e4⟩ := hp x hx
    rw [e3, e4]; simp
  · rintro e w' ⟨fa', X', rfl, hcp, hA⟩
    have hsh := own_shape (show Own w' 119 9 fa' X.length (rows fxC X') from hA.head)
    refine ⟨fa', X', rfl, uX_cp hcp, hcp.1, ?_, ?_⟩
    · obtain ⟨a, c, e⟩ := hsh; exact ⟨a, _, c, e⟩
    · rw [← hcp.1] at hA
      have h2 := hA.newBkA w'.heap.size rfl [fa', .int .i64 foc] 30
      refine h2.sub ?_
      show (bk w'.heap.size [fa', .int .i64 foc] 30 :: sl 119 9 fa' X'.length (rows fxC X') :: (fsL Q fa foc X ++ l)).Sublist _
      refine List.Sublist.cons_cons _ (List.Sublist.cons_cons _ ?_)
      exact (List.Sublist.append_left (List.sublist_cons_self _ _) _).trans (List.sublist_append_right _ _)
set_option maxRecDepth 100000 in
set_option maxHeartbeats 8000000 in
theorem focused_any (D : DcOk S K d) (i : Nat) (n : Nd) (h : All B w0 (fsL Q fa (S.hd i) X ++ l) w) (hO : trO R S sv fv ∈ l) (hi : S.at i = some n) (hk : kindN n = 1 ∨ kindN n = 2) (hd : attV n sDisabled = none) :
    Calls Tryz.prog 46 #[.pointer (some ⟨Q, 0, none⟩), .pointer (some ⟨R, 0, none⟩)] w fun e w' => e = .returned (.int .i64 (S.hd i)) ∧ Below w.heap.size w w' := by
  have hT : TAt 0 R S sv fv w := h.P _ (List.mem_append_right _ hO)
  obtain ⟨n0, hn0⟩ := Option.isSome_iff_exists.1 D.live0
  have hli : (S.at i).isSome = true := by rw [hi]; rfl
  have hsb := root_sub D _ i rfl hli
  unfold subB at hsb
  have HC := Lib.hid (fun wx (hb : Below w.heap.size w wx) => (show Calls Tryz.prog 97 #[.pointer (some ⟨R, 0, none⟩), .int .i64 (S.hd 0), .int .i64 (S.hd i)] wx fun e w' => e = .returned (.bool true) ∧ Below wx.heap.size wx w' from by
    have hT2 := hT.below hb
    obtain ⟨g, cap, rfl⟩ := slots_some hT2 (by have := at_lt hi; omega)
    have := contains_any hT2 D.lk 0 i n0 n hn0 hi
    rwa [hsb] at this))
  have HFo := Lib.hid (fun wx (hb : Below w.heap.size w wx) => focusable_fd (hT.below hb) D.lk i n hi (D.al i n hi) hk hd)
  have HQ := Lib.hid (fun wx (hb : Below w.heap.size w wx) => (show wx.cell? ⟨Q, 1, none⟩ = some (.int .i64 (S.hd i)) ∧ wx.cell? ⟨R, 5, none⟩ = some (.int .i64 (S.hd 0)) from by
    refine ⟨(show Blk wx Q [fa, .int .i64 (S.hd i)] 30 from (h.still hb).head).cell 1, ?_⟩
    have := (hT.below hb).blk.cell 5
    simp only [List.getElem?_cons_succ, List.getElem?_cons_zero] at this
    rw [this, D.ok.root]))
  have e0 : (S.hd i != 0) = true := by have := (hd_ok D.lk hi).2; simp; omega
  obtain ⟨q1, r5⟩ := HQ.out w (Below.refl _ _)
  generalize S.hd i = hd at *
  generalize S.hd 0 = h0 at *
  clear h hT hi hn0 hsb hli D hO hk
  go_enter Tryz.func46, Tryz.ntmps46
  go_upto_region 1 with fail
  have hne := stb_ne w
  have x1 := fun (x : InS (StB w)) => (HQ.out x.w x.h).1
  have x5 := fun (x : InS (StB w)) => (HQ.out x.w x.h).2
  refine reg_f (fun _ _ => True) (fun _ v => v = .bool true) 25 (by kernel_rfl) (by kernel_rfl) (fun _ _ _ _ _ => trivial) trivial ?_
  simp only [List.take_succ_cons, List.take_zero, List.drop_succ_cons, List.drop_zero]
  repeat (first
    | (refine RV.m_held (by rfl) (by rfl) (fun K hK => ?_); go_big_quiet_step (fail); refine wpQuiet_nil ?_; refine hK.out _ ?_; clear hK K)
    | (refine RV.m_skip (by rfl) ?_; simp only [Act.put, List.setIfInBounds_toArray, List.set_cons_zero, List.set_cons_succ]))
  refine RV.m_call (by rfl) (by rfl) (fun w => by go_simp; exact ⟨rfl, rfl⟩) (⟨_, rfl⟩) (fun X wx hx => ?_) (fun v hv => ?_)
  · refine (HC.out wx hx.1).mono ?_
    rintro e w2 ⟨rfl, hb2⟩
    exact ⟨_, rfl, rfl, bthen hx.1 hb2, trivial⟩
  obtain rfl := hv
  simp only [Act.put, List.setIfInBounds_toArray, List.set_cons_zero, List.set_cons_succ]
  repeat (first
    | (refine RV.m_held (by rfl) (by rfl) (fun K hK => ?_); go_big_quiet_step (fail); refine wpQuiet_nil ?_; refine hK.out _ ?_; clear hK K)
    | (refine RV.m_skip (by rfl) ?_; simp only [Act.put, List.setIfInBounds_toArray, List.set_cons_zero, List.set_cons_succ]))
  refine RV.m_call (by rfl) (by rfl) (fun w => by go_simp; exact ⟨rfl, rfl⟩) (⟨_, rfl⟩) (fun X wx hx => ?_) (fun v hv => ?_)
  · refine (HFo.out wx hx.1).mono ?_
    rintro e w2 ⟨rfl, hb2⟩
    exact ⟨_, rfl, rfl, bthen hx.1 hb2, trivial⟩
  obtain rfl := hv
  simp only [Act.put, List.setIfInBounds_toArray, List.set_cons_zero, List.set_cons_succ]
  repeat (first
    | (refine RV.m_held (by rfl) (by rfl) (fun K hK => ?_); go_big_quiet_step (fail); refine wpQuiet_nil ?_; refine hK.out _ ?_; clear hK K)
    | (refine RV.m_skip (by rfl) ?_; simp only [Act.put, List.setIfInBounds_toArray, List.set_cons_zero, List.set_cons_succ]))
  refine RV.m_nil ?_
  intro w6 hb6 _
  have HB6 := Lib.hid hb6
  obtain ⟨q1, r5⟩ := HQ.out _ hb6
  clear hb6 x1 x5 hne
  go_wp2_with fail
  go_ret
  exact ⟨rfl, HB6.out⟩
end
end Go.Proofs.YtacdbnhnhdlmpaaGreatDoor.W
end
section
namespace Go.Proofs.YtacdbnhnhdlmpaaGreatDoor.W
open Go.RowKit
inductive ClkC (kx : Nat) (dis cv : Bool) (ow hd : Int) (M M2 : List (Int × Bool)) : Int → Int → Int → List (Int × Bool) → Prop
  | none (h : kx = 0 ∨ dis = true) : ClkC kx dis cv ow hd M M2 0 0 0 M
  | ck (h0 : dis = false) (h : kx = 3 ∨ (kx = 4 ∧ cv = false)) : ClkC kx dis cv ow hd M M2 1 hd 0 M2
  | sub (h0 : dis = false) (h : kx = 6) (ho : ow ≠ 0) : ClkC kx dis cv ow hd M M2 5 hd ow M
  | subn (h0 : dis = false) (h : kx = 6) (ho : ow = 0) : ClkC kx dis cv ow hd M M2 0 0 0 M
  | tx (h0 : dis = false) (h : kx = 1 ∨ kx = 2) : ClkC kx dis cv ow hd M M2 3 hd 0 M
  | els (h0 : dis = false) (h : kx ≠ 0 ∧ kx ≠ 1 ∧ kx ≠ 2 ∧ kx ≠ 3 ∧ kx ≠ 6) (hc : kx = 4 → cv = true) : ClkC kx dis cv ow hd M M2 0 0 0 M
section
variable {R : Nat} {S : Tr} {sv fv : Value} {K : Nat → List Nat} {d : Nat → Nat}
structure ClkR (S : Tr) (K : Nat → List Nat) (d : Nat → Nat) (X : List FX) (M : List (Int × Bool)) (X' : List FX) (M' : List (Int × Bool)) : Prop where
  ok : MkOk S K d X' M'
  pl : PlX X'
  xl : X'.length ≤ X.length + 101
  ml : M'.length ≤ M.length + 101
theorem ClkR.same {X : List FX} {M : List (Int × Bool)} (h : MkOk S K d X M) (hp : PlX X) : ClkR S K d X M X M := ⟨h, hp, by omega, by omega⟩
theorem clk_all (D : DcOk S K d) {i : Nat} {n : Nd} (hi : S.at i = some n) {X : List FX} {M : List (Int × Bool)} (h : MkOk S K d X M) (hp : PlX X) :
    ∃ (a b c : Int) (F : Int → Int) (G : List FX → List FX) (M' : List (Int × Bool)), ClkP S R sv fv (S.hd i) (uX X) a b c F G ∧
      ClkC (kindN n) (attV n sDisabled).isSome (chkd (gH S K d) (rdH S) (atH S) (uX X) (S.hd i)) (hO S (ownI S d i)) (S.hd i) M (setM (gH S K d) (rdH S) M (S.hd i) (!chkd (gH S K d) (rdH S) (atH S) (uX X) (S.hd i))) a b c M' ∧ ClkR S K d X M (G X) M' ∧
      (a = 3 → (kindN n = 1 ∨ kindN n = 2) ∧ attV n sDisabled = none ∧ ∀ f, F f = S.hd i) := by
  cases hdis : attV n sDisabled with
  | some v =>
    exact ⟨0, 0, 0, id, id, M, click_none D i n hi (.inr (by rw [hdis]; rfl)), .none (.inr rfl), .same h hp, fun e => by omega⟩
  | none =>
    by_cases h0 : kindN n = 0
    · exact ⟨0, 0, 0, id, id, M, click_none D i n hi (.inl h0), .none (.inl h0), .same h hp, fun e => by omega⟩
    by_cases h1 : kindN n = 1 ∨ kindN n = 2
    · exact ⟨3, S.hd i, 0, fun _ => S.hd i, id, M, click_tx D i n hi hdis h1, .tx rfl h1, .same h hp, fun _ => ⟨h1, rfl, fun _ => rfl⟩⟩
    by_cases h3 : kindN n = 3 ∨ (kindN n = 4 ∧ chkd (gH S K d) (rdH S) (atH S) (uX X) (S.hd i) = false)
    · refine ⟨1, S.hd i, 0, id, _, _, click_ck D i n hi hdis h3, .ck rfl h3, ⟨h.set D (S.hd i) _, hp.setX _ _, setX_len D X _ _, setM_len D M _ _⟩, fun e => by omega⟩
    by_cases h6 : kindN n = 6
    · have hc := click_sub (R := R) (sv := sv) (fv := fv) (u := uX X) D i n hi hdis h6
      by_cases ho : hO S (ownI S d i) = 0
      · simp only [if_pos ho] at hc
        exact ⟨0, 0, 0, id, id, M, hc, .subn rfl h6 ho, .same h hp, fun e => by omega⟩
      · simp only [if_neg ho] at hc
        exact ⟨5, S.hd i, hO S (ownI S d i), id, id, M, hc, .sub rfl h6 ho, .same h hp, fun e => by omega⟩
    · have hk : kindN n ≠ 0 ∧ kindN n ≠ 1 ∧ kindN n ≠ 2 ∧ kindN n ≠ 3 ∧ kindN n ≠ 6 := ⟨h0, fun e => h1 (.inl e), fun e => h1 (.inr e), fun e => h3 (.inl e), h6⟩
      have hc4 : kindN n = 4 → chkd (gH S K d) (rdH S) (atH S) (uX X) (S.hd i) = true := fun e => by
        cases hcv : chkd (gH S K d) (rdH S) (atH S) (uX X) (S.hd i) with
        | true => rfl
        | false => exact absurd (.inr ⟨e, hcv⟩) h3
      exact ⟨0, 0, 0, id, id, M, click_els D i n hi hdis hk hc4, .els rfl hk hc4, .same h hp, fun e => by omega⟩
end
def ClS (r : Nat) (a b c : Int) (w' : World) : Prop := Blk w' r [.int .i64 a, .int .i64 b, .int .i64 c] 91
def ClC (B : Nat) (w0 : World) (C Q : Nat) (fC fQ : Int) (XC XQ : List FX) (FC FQ : Int → Int) (GC GQ : List FX → List FX) (l : List Ob) (k : List Value) (X : List Ob) (w' : World) : Prop :=
  ∃ fac faq, All B w0 (X ++ (match k with
    | [] => fsL C fac fC XC ++ (fsL Q faq fQ XQ ++ l)
    | [_] => fsL C fac (FC fC) (GC XC) ++ (fsL Q faq fQ XQ ++ l)
    | _ => fsL C fac (FC fC) (GC XC) ++ (fsL Q faq (FQ fQ) (GQ XQ) ++ l))) w'
theorem clC_mem {B : Nat} {w0 : World} {C Q : Nat} {fC fQ : Int} {XC XQ : List FX} {FC FQ : Int → Int} {GC GQ : List FX → List FX} {l : List Ob} {k : List Value} {X : List Ob} {w' : World} (h : ClC B w0 C Q fC fQ XC XQ FC FQ GC GQ l k X w') {r : Nat} {a b c : Int} (hm : bk r [.int .i64 a, .int .i64 b, .int .i64 c] 91 ∈ l) : ClS r a b c w' := by
  obtain ⟨f1, f2, h⟩ := h
  refine h.P (bk r [.int .i64 a, .int .i64 b, .int .i64 c] 91) ?_
  refine List.mem_append_right _ ?_
  split <;> exact List.mem_append_right _ (List.mem_append_right _ hm)
theorem clC_new {B : Nat} {w0 : World} {C Q : Nat} {fC fQ : Int} {XC XQ : List FX} {FC FQ : Int → Int} {GC GQ : List FX → List FX} {l : List Ob} {k : List Value} {X : List Ob} {w' : World} (h : ClC B w0 C Q fC fQ XC XQ FC FQ GC GQ l k X w') (cs : List Value) (t : TypeId) : ClC B w0 C Q fC fQ XC XQ FC FQ GC GQ l k (bk w'.heap.size cs t :: X) (w'.alloc (.cells cs.toArray t)) := by
  obtain ⟨f1, f2, h⟩ := h
  exact ⟨f1, f2, h.newBk cs t⟩
theorem clC_perm {B : Nat} {w0 : World} {C Q : Nat} {fC fQ : Int} {XC XQ : List FX} {FC FQ : Int → Int} {GC GQ : List FX → List FX} {l : List Ob} {k : List Value} {X Y : List Ob} {w' : World} (hp : X.Perm Y) (h : ClC B w0 C Q fC fQ XC XQ FC FQ GC GQ l k X w') : ClC B w0 C Q fC fQ XC XQ FC FQ GC GQ l k Y w' := by
  obtain ⟨f1, f2, h⟩ := h
  exact ⟨f1, f2, h.perm (List.Perm.append_right _ hp)⟩
end Go.Proofs.YtacdbnhnhdlmpaaGreatDoor.W
end
section
namespace Go.Proofs.YtacdbnhnhdlmpaaGreatDoor.W
open Go.ChangeShapes Go.WideShapes Go.ChangeAt Go.RowKit Go.Joins Go.Deep
def InB (w : World) (A : Option Addr) (n : Nat) (f : Nat → Int) : Prop := 0 < n → ∃ b off, A = some ⟨b, off, none⟩ ∧ b < w.heap.size ∧ ∀ j, j < n → w.cell? ⟨b, off + j, none⟩ = some (.int .u8 (f j))
theorem byte_in {x : Int} (h : (Lit.int .u8 x).wf = true) : 0 ≤ x ∧ x ≤ 255 := by
  have := bounds_u8 h
  omega
theorem InB.below {w w' : World} {A : Option Addr} {n : Nat} {f : Nat → Int} (h : InB w A n f) (hb : Below w.heap.size w w') : InB w' A n f := fun hn => by
  obtain ⟨b, off, e, hl, hc⟩ := h hn
  exact ⟨b, off, e, Nat.lt_of_lt_of_le hl hb.size, fun j hj => cell_keep hb (hc j hj)⟩
variable {H : Type} {enc : TypeId × Value → H} {P : Program} {w : World}
theorem open_bytes {r : Reach} {b0 : Nat} {t e : TypeId} {v : Value} {d : DataW H} {ps : List MemPlace} (ht : P.underlying t = some (.slice e)) (he : P.underlying e = some (.int .u8)) (hc : P.cellsOf e = 1)
    (hval : Value.okWide P w r b0 t v) (h : DataW.Trod enc P w 0 (fun _ => true) true t v d ps) :
    ∃ A n c, ∃ f : Nat → Int, v = .slice A n c ∧ n ≤ 9223372036854775807 ∧ InB w A n f ∧ ∀ j, 0 ≤ f j ∧ f j ≤ 255 := by
  obtain ⟨A, n, c, rfl⟩ := okWide_slice ht hval
  obtain ⟨fuel, hf⟩ := h
  rcases open_ints ht he hc hf with ⟨hcs, _⟩ | ⟨a, len, cap, zs, hcs, _, hl, hmx, hzl, _, hcell, hwf⟩
  · simp [Value.cells] at hcs
    obtain ⟨rfl, rfl, rfl⟩ := hcs
    exact ⟨none, 0, 0, fun _ => 0, rfl, Nat.zero_le _, fun h => absurd h (by omega), fun _ => by simp⟩
  · simp [Value.cells] at hcs
    obtain ⟨rfl, rfl, rfl⟩ := hcs
    simp only [if_true] at hzl
    refine ⟨some a, n, c, fun j => zs.getD j 0, rfl, by unfold maxLen at hmx; omega, fun hn => ?_, fun j => byte_in ?_⟩
    · obtain ⟨b, off, rfl, hc⟩ := ints_at hcell (by omega)
      exact ⟨b, off, rfl, World.block_lt_of_cell? _ _ (hc 0 (by omega)), fun j hj => hc j (by omega)⟩
    · show (Lit.int .u8 (zs.getD j 0)).wf = true
      by_cases hj : j < zs.length
      · rw [List.getD_eq_getElem?_getD, List.getElem?_eq_getElem hj]
        exact hwf _ (List.getElem_mem hj)
      · rw [List.getD_eq_getElem?_getD, List.getElem?_eq_none (by omega)]
        decide
end Go.Proofs.YtacdbnhnhdlmpaaGreatDoor.W
end
