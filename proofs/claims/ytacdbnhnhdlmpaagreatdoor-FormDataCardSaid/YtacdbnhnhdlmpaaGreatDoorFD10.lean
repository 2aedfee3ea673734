/- Texts joined: RdP LwR Std DtP. -/
import Derived.Test.YtacdbnhnhdlmpaaGreatDoorFD9
import Derived.Deep.CutBlock
set_option maxRecDepth 100000
set_option maxHeartbeats 40000000
set_option linter.unusedVariables false
set_option linter.unusedSimpArgs false
section
namespace Go.Proofs.YtacdbnhnhdlmpaaGreatDoor.W
open Go.RowKit
section
variable {S : Tr} {K : Nat → List Nat} {d : Nat → Nat}
theorem gH_len (D : DcOk S K d) (h : Int) : (gH S K d h).length ≤ 100 := by
  unfold gH
  split
  · rw [List.length_map]; exact grp_len D _ _
  · simp
theorem setX_len (D : DcOk S K d) (X : List FX) (h : Int) (on : Bool) : (setX (gH S K d) (rdH S) X h on).length ≤ X.length + 101 := by
  have h1 := touX_len X h on
  unfold setX
  split
  · have h2 := touL_len (touX X h on) ((gH S K d h).filter (fun x => x != h))
    have h3 := List.length_filter_le (fun x => x != h) (gH S K d h)
    have h4 := gH_len D h
    omega
  · omega
theorem setM_len (D : DcOk S K d) (M : List (Int × Bool)) (h : Int) (on : Bool) : (setM (gH S K d) (rdH S) M h on).length ≤ M.length + 101 := by
  unfold setM
  have h3 := List.length_filter_le (fun x => x != h) (gH S K d h)
  have h4 := gH_len D h
  rw [List.length_append, List.length_append, List.length_singleton]
  split
  · rw [List.length_map]; omega
  · simp
structure MkOk (S : Tr) (K : Nat → List Nat) (d : Nat → Nat) (X : List FX) (M : List (Int × Bool)) : Prop where
  eq : uX X = lastM M
  one : OneT (gH S K d) (rdH S) (uX X)
  nod : NoD X
theorem MkOk.start : MkOk S K d [] [] := ⟨rfl, fun a b _ _ _ h => (by cases h.1), fun x hx => (by cases hx)⟩
theorem MkOk.set (D : DcOk S K d) {X : List FX} {M : List (Int × Bool)} (h : MkOk S K d X M) (x : Int) (on : Bool) : MkOk S K d (setX (gH S K d) (rdH S) X x on) (setM (gH S K d) (rdH S) M x on) := by
  have e : uX (setX (gH S K d) (rdH S) X x on) = setU (gH S K d) (rdH S) (uX X) x on := funext fun y => setX_u _ _ _ _ _ _
  refine ⟨?_, ?_, h.nod.setX x on⟩
  · rw [e, h.eq]
    exact funext fun y => (setM_last _ _ _ _ _ _).symm
  · rw [e]
    exact h.one.set (gr_ok D) x on
end
def VMs : List Value → Value → Prop := fun _ v => ∃ a n c a' n' c', v = .agg #[.slice a n c, .slice a' n' c']
def FMs (B : Nat) (M : List (Int × Bool)) : List Value → World → Prop
  | [v], w' => ∀ x y, v = .agg #[x, y] → w'.ownsRow B 3 1 x M.length (mrN M) ∧ w'.ownsRow B 4 1 y M.length (mrB M)
  | _, _ => True
theorem fms_below {B : Nat} {M : List (Int × Bool)} (k : List Value) (w1 w2 : World) (h : FMs B M k w1) (hb : Below w1.heap.size w1 w2) : FMs B M k w2 := by
  match k, h with
  | [], _ => trivial
  | [v], h => exact fun x y e => ⟨own_keepB (h x y e).1 hb, own_keepB (h x y e).2 hb⟩
  | _ :: _ :: _, _ => trivial
def rdL (Z R : Nat) (S : Tr) (sv fv va vb lv : Value) (L : List Nat) (M : List (Int × Bool)) : List Ob := [bk Z [va, vb] 65, sl 3 1 va M.length (mrN M), sl 4 1 vb M.length (mrB M), trO R S sv fv, sl 3 1 lv L.length (hdC S L)]
section
variable {B Q Z R : Nat} {S : Tr} {sv fv va vb lv fa : Value} {L : List Nat} {M : List (Int × Bool)} {X : List FX} {foc : Int} {w0 w : World}
theorem rd_tr : trO R S sv fv ∈ rdL Z R S sv fv va vb lv L M := by simp [rdL]
theorem rd_mk (h : All B w0 (fsL Q fa foc X ++ rdL Z R S sv fv va vb lv L M) w) : MkAt w va vb M :=
  ⟨h.P (sl 3 1 va M.length (mrN M)) (by simp [rdL]), h.P (sl 4 1 vb M.length (mrB M)) (by simp [rdL])⟩
theorem rd_bk (h : All B w0 (fsL Q fa foc X ++ rdL Z R S sv fv va vb lv L M) w) : Blk w Z [va, vb] 65 := h.P (bk Z [va, vb] 65) (by simp [rdL])
theorem rd_row (h : All B w0 (fsL Q fa foc X ++ rdL Z R S sv fv va vb lv L M) w) : Own w 3 1 lv L.length (hdC S L) := h.P (sl 3 1 lv L.length (hdC S L)) (by simp [rdL])
theorem rd_tree (h : All B w0 (fsL Q fa foc X ++ rdL Z R S sv fv va vb lv L M) w) : TAt 0 R S sv fv w := h.P (trO R S sv fv) (by simp [rdL])
theorem rd_put (h : All B w0 (fsL Q fa foc X ++ rdL Z R S sv fv va vb lv L M) w) {w' : World} (hb : Below w.heap.size w w') {M' : List (Int × Bool)} {va' vb' : Value} (h1 : w'.ownsRow w.heap.size 3 1 va' M'.length (mrN M')) (h2 : w'.ownsRow w.heap.size 4 1 vb' M'.length (mrB M')) :
    All B w0 (fsL Q fa foc X ++ rdL Z R S sv fv va' vb' lv L M') ((w'.setCell ⟨Z, 0, none⟩ va').setCell ⟨Z, 1, none⟩ vb') := by
  have h3 := h.newL hb (L := [sl 3 1 va' M'.length (mrN M'), sl 4 1 vb' M'.length (mrB M')]) (fun o ho => by
    simp only [List.mem_cons, List.not_mem_nil, or_false] at ho
    rcases ho with rfl | rfl
    · exact own_low h1 (Nat.zero_le _)
    · exact own_low h2 (Nat.zero_le _)) (fun o ho => by
    simp only [List.mem_cons, List.not_mem_nil, or_false] at ho
    rcases ho with rfl | rfl
    · exact fun k hk => (h1.lt k hk).1
    · exact fun k hk => (h2.lt k hk).1) (by
    simp only [List.pairwise_cons, List.mem_cons, List.not_mem_nil, or_false, List.Pairwise.nil, and_true, forall_eq, false_implies, implies_true]
    intro k q1 q2
    obtain ⟨c1, e1⟩ := own_ty h1 q1
    obtain ⟨c2, e2⟩ := own_ty h2 q2
    exact blk_ne e1 e2 (by decide) rfl)
  have h4 : All B w0 ([sl 3 1 va' M'.length (mrN M'), sl 4 1 vb' M'.length (mrB M')] ++ (fsL Q fa foc X ++ [bk Z [va, vb] 65, trO R S sv fv, sl 3 1 lv L.length (hdC S L)])) w' := h3.sub (List.Sublist.append_left (List.Sublist.append_left (by
    unfold rdL
    exact ((List.sublist_cons_self _ _).trans (List.sublist_cons_self _ _)).cons_cons _) _) _)
  have h5 : All B w0 ((fsL Q fa foc X ++ [bk Z [va, vb] 65]) ++ ([sl 3 1 va' M'.length (mrN M'), sl 4 1 vb' M'.length (mrB M')] ++ [trO R S sv fv, sl 3 1 lv L.length (hdC S L)])) w' := by
    refine h4.perm ?_
    have : fsL Q fa foc X ++ [bk Z [va, vb] 65, trO R S sv fv, sl 3 1 lv L.length (hdC S L)] = (fsL Q fa foc X ++ [bk Z [va, vb] 65]) ++ [trO R S sv fv, sl 3 1 lv L.length (hdC S L)] := by simp
    rw [this]
    exact List.perm_append_comm_assoc _ _ _
  have h6 : All B w0 (fsL Q fa foc X ++ bk Z [va, vb] 65 :: [sl 3 1 va' M'.length (mrN M'), sl 4 1 vb' M'.length (mrB M'), trO R S sv fv, sl 3 1 lv L.length (hdC S L)]) w' := by simpa using h5
  have h7 := All.setBk (fsL Q fa foc X) h6 0 va'
  have h8 := All.setBk (fsL Q fa foc X) h7 1 vb'
  exact h8
end
end Go.Proofs.YtacdbnhnhdlmpaaGreatDoor.W
end
section
namespace Go.Proofs.YtacdbnhnhdlmpaaGreatDoor.W
open Go.RowKit
section
variable {B Q Z R : Nat} {S : Tr} {sv fv lv : Value} {L : List Nat} {w0 w : World}
theorem rd_start (h : All B w0 [bk Z [.slice none 0 0, .slice none 0 0] 65, bk Q [.slice none 0 0, .int .i64 0] 30, trO R S sv fv, sl 3 1 lv L.length (hdC S L)] w) :
    All B w0 (fsL Q (.slice none 0 0) 0 [] ++ rdL Z R S sv fv (.slice none 0 0) (.slice none 0 0) lv L []) w := by
  have h1 := ((h.nil 4 1).nil 3 1).nil 119 9
  have hp : ∀ (F n b Zb Qb : Ob) (r : List Ob), (F :: n :: b :: Zb :: Qb :: r).Perm (Qb :: F :: Zb :: n :: b :: r) := fun F n b Zb Qb r => by
    have e1 : (F :: n :: b :: Zb :: Qb :: r) = [F, n, b, Zb] ++ Qb :: r := rfl
    rw [e1]
    refine List.perm_middle.trans ((List.Perm.cons _ ((?_ : (n :: b :: Zb :: r).Perm (Zb :: n :: b :: r)).cons F)))
    exact List.perm_middle (l₁ := [n, b])
  exact h1.perm (hp _ _ _ _ _ _)
end
end Go.Proofs.YtacdbnhnhdlmpaaGreatDoor.W
end
section
namespace Go.Proofs.YtacdbnhnhdlmpaaGreatDoor.W
open Go.RowKit
section
variable {B R : Nat} {S : Tr} {sv fv : Value} {w0 w : World} {K : Nat → List Nat} {d : Nat → Nat}
set_option maxRecDepth 100000 in
set_option maxHeartbeats 4000000 in
theorem std_any (D : DcOk S K d) (h : TAt 0 R S sv fv w) (i : Nat) (n : Nd) (hi : S.at i = some n) :
    Calls Tryz.prog 60 #[.pointer (some ⟨R, 0, none⟩), .int .i64 (S.hd i)] w fun e w' => e = .returned (.string ⟨(valN S K d i n).toArray⟩) ∧ Below w.heap.size w w' := by
  have HK := Lib.hid (kind_any h D.lk i n hi (D.al i n hi))
  obtain ⟨gg, cap, rfl⟩ := slots_some h (by have := at_lt hi; omega)
  have HC := Lib.hid (fun wx (hb : Below w.heap.size w wx) => content_some (h.below hb) D.lk i n hi D.dt (Nat.le_trans (wlk_len D.lk _ i (by rw [hi]; rfl)) (by have := D.len; omega)))
  have HA := Lib.hid (fun wx (hb : Below w.heap.size w wx) => attr_at (h.below hb) D.lk i n hi (D.al i n hi) sValue)
  obtain ⟨vv, hvv⟩ : ∃ vv, valN S K d i n = vv := ⟨_, rfl⟩
  rw [hvv]
  unfold valN at hvv
  rw [D.attL hi] at hvv
  generalize ctn S (wlk K (128 - d i) i) = ct at *
  generalize kindN n = kx at *
  generalize attV n sValue = t at *
  have HV := Lib.hid hvv
  clear h hi hvv
  by_cases h2 : kx = 2
  · have HR := Lib.hid (show vv = ct from by rw [← HV.out, if_pos h2])
    have e2 : ((kx : Int) == 2) = true := by simp [h2]
    clear h2 HV
    go_enter Tryz.func60, Tryz.ntmps60
    go_wp2_with fail
    refine HK.out.mono ?_
    rintro e w1 ⟨rfl, hb1⟩
    go_wp2_with fail
    refine (HC.out _ hb1).mono ?_
    rintro e w2 ⟨rfl, hb2⟩
    go_wp2_with fail
    go_ret
    rw [HR.out]
    exact ⟨rfl, bthen hb1 hb2⟩
  · have e2 : ((kx : Int) == 2) = false := by simp; omega
    cases t with
    | none =>
      simp only [Option.getD_none, Option.isSome_none] at HA
      by_cases h3 : kx = 3
      · have HR := Lib.hid (show vv = [111, 110] from by rw [← HV.out, if_neg h2, if_pos ⟨rfl, .inl h3⟩])
        have e3 : ((kx : Int) == 3) = true := by simp [h3]
        clear h2 h3 HV
        go_enter Tryz.func60, Tryz.ntmps60
        go_wp2_with fail
        refine HK.out.mono ?_
        rintro e w1 ⟨rfl, hb1⟩
        go_wp2_with fail
        refine (HA.out _ hb1).mono ?_
        rintro e w2 ⟨rfl, hb2⟩
        go_wp2_with fail
        go_ret
        rw [HR.out]
        exact ⟨rfl, bthen hb1 hb2⟩
      · have e3 : ((kx : Int) == 3) = false := by simp; omega
        by_cases h4 : kx = 4
        · have HR := Lib.hid (show vv = [111, 110] from by rw [← HV.out, if_neg h2, if_pos ⟨rfl, .inr h4⟩])
          have e4 : ((kx : Int) == 4) = true := by simp [h4]
          clear h2 h3 h4 HV
          go_enter Tryz.func60, Tryz.ntmps60
          go_wp2_with fail
          refine HK.out.mono ?_
          rintro e w1 ⟨rfl, hb1⟩
          go_wp2_with fail
          refine (HA.out _ hb1).mono ?_
          rintro e w2 ⟨rfl, hb2⟩
          go_wp2_with fail
          go_ret
          rw [HR.out]
          exact ⟨rfl, bthen hb1 hb2⟩
        · have e4 : ((kx : Int) == 4) = false := by simp; omega
          have HR := Lib.hid (show vv = [] from by rw [← HV.out, if_neg h2, if_neg (fun q => q.2.elim h3 h4)]; rfl)
          clear h2 h3 h4 HV
          go_enter Tryz.func60, Tryz.ntmps60
          go_wp2_with fail
          refine HK.out.mono ?_
          rintro e w1 ⟨rfl, hb1⟩
          go_wp2_with fail
          refine (HA.out _ hb1).mono ?_
          rintro e w2 ⟨rfl, hb2⟩
          go_wp2_with fail
          go_ret
          rw [HR.out]
          exact ⟨rfl, bthen hb1 hb2⟩
    | some x =>
      simp only [Option.getD_some, Option.isSome_some] at HA
      have HR := Lib.hid (show vv = x from by rw [← HV.out, if_neg h2, if_neg (fun q => by cases q.1)]; rfl)
      clear h2 HV
      go_enter Tryz.func60, Tryz.ntmps60
      go_wp2_with fail
      refine HK.out.mono ?_
      rintro e w1 ⟨rfl, hb1⟩
      go_wp2_with fail
      refine (HA.out _ hb1).mono ?_
      rintro e w2 ⟨rfl, hb2⟩
      go_wp2_with fail
      go_ret
      rw [HR.out]
      exact ⟨rfl, bthen hb1 hb2⟩
theorem fd_any (D : DcOk S K d) (i : Nat) (n : Nd) (hi : S.at i = some n) : FdOk B w0 R (trO R S sv fv) (S.hd i) (kindN n) (valN S K d i n) :=
  ⟨fun w h hb => kind_any (show TAt 0 R S sv fv w from h) D.lk i n hi (D.al i n hi), fun w h hb => std_any D (show TAt 0 R S sv fv w from h) i n hi⟩
end
end Go.Proofs.YtacdbnhnhdlmpaaGreatDoor.W
end
section
namespace Go.Proofs.YtacdbnhnhdlmpaaGreatDoor.W
open Go.RowKit
theorem filter_mem {l s : List Nat} (h : s.Sublist l) (hn : l.Nodup) : l.filter (fun x => decide (x ∈ s)) = s := by
  induction h with
  | slnil => rfl
  | @cons s l a h ih =>
    rw [List.nodup_cons] at hn
    have ha : ¬ a ∈ s := fun e => hn.1 (h.subset e)
    rw [List.filter_cons, if_neg (by simpa using ha)]
    exact ih hn.2
  | @cons_cons s l a h ih =>
    rw [List.nodup_cons] at hn
    rw [List.filter_cons, if_pos (by simp)]
    congr 1
    rw [← ih hn.2]
    rw [ih hn.2]
    conv => rhs; rw [← ih hn.2]
    refine List.filter_congr fun x hx => ?_
    have : x ≠ a := fun e => hn.1 (e ▸ hx)
    simp [this]
theorem filter_sub {l s : List Nat} (h : s.Sublist l) (hn : l.Nodup) (P : Nat → Bool) (hP : ∀ x, P x = true → x ∈ l → x ∈ s) : l.filter P = s.filter P := by
  conv => rhs; rw [← filter_mem h hn]
  rw [List.filter_filter]
  refine List.filter_congr fun x hx => ?_
  cases e : P x with
  | false => rfl
  | true => simp [hP x e hx]
theorem flat_sub {K : Nat → List Nat} {f : Nat → List Nat} {i q : Nat} (h : i ∈ K q) : (f i).Sublist ((K q).flatMap f) := by
  obtain ⟨a, b, e⟩ := List.append_of_mem h
  rw [e, List.flatMap_append, List.flatMap_cons]
  exact (List.sublist_append_left _ _).trans (List.sublist_append_right _ _)
section
variable {S : Tr} {K : Nat → List Nat} {d : Nat → Nat}
theorem wlk_subl (D : DcOk S K d) : ∀ (m i : Nat), d i = m → (S.at i).isSome = true → (wlk K (128 - d i) i).Sublist (ord K d) := by
  intro m
  induction m using Nat.strongRecOn with
  | ind m ih =>
    intro i hm hx
    by_cases h0 : i = 0
    · subst h0; exact List.Sublist.refl _
    · obtain ⟨q, hq⟩ := D.att i hx h0
      have hd := D.lk.dep q i hq
      have hlow := D.lk.low i
      have h1 := ih (d q) (by omega) q rfl (D.lk.kin q i hq).1
      refine List.Sublist.trans ?_ h1
      obtain ⟨f, hf⟩ : ∃ f, 128 - d q = f + 1 := ⟨128 - d q - 1, by omega⟩
      rw [hf, show 128 - d i = f by omega]
      show (wlk K f i).Sublist (q :: (K q).flatMap (wlk K f))
      exact (flat_sub hq).trans (List.sublist_cons_self _ _)
theorem pr_in (L : Lk S K d) {x q : Nat} (h : pr S x = some q) : x ∈ K q := by
  unfold pr at h
  obtain ⟨n, hn, h2⟩ := Option.bind_eq_some_iff.1 h
  rcases L.parO x with ⟨r, hr⟩ | ht
  · have e := pr_kid L hr
    unfold pr at e
    rw [h] at e
    cases e
    exact hr
  · rw [(L.top x n hn ht).1, ix_zero] at h2
    cases h2
theorem own_sub (L : Lk S K d) : ∀ (f x y : Nat), (S.at x).isSome = true → ownF S f (some x) = some y → subB S d y x = true := by
  intro f
  induction f with
  | zero => intro x y hx h; cases h
  | succ f ih =>
    intro x y hx h
    unfold ownF at h
    split at h
    · cases h
      rcases L.parO x with ⟨r, hr⟩ | ht
      · rw [sub_kid L hr]; simp
      · rw [sub_top L hx ht]; simp
    · cases e : pr S x with
      | none => rw [e, ownF_none] at h; cases h
      | some q =>
        rw [e] at h
        have hq := pr_in L e
        rw [sub_kid L hq, ih q y (L.kin q x hq).1 h]
        simp
theorem ownI_sub (L : Lk S K d) {x y : Nat} (h : ownI S d x = some y) : subB S d y x = true := by
  unfold ownI at h
  cases e : pr S x with
  | none => rw [e, ownF_none] at h; cases h
  | some q =>
    rw [e] at h
    have hq := pr_in L e
    rw [sub_kid L hq, own_sub L _ q y (L.kin q x hq).1 h]
    simp
theorem ownF_live (L : Lk S K d) : ∀ (f x y : Nat), (S.at x).isSome = true → ownF S f (some x) = some y → (S.at y).isSome = true := by
  intro f
  induction f with
  | zero => intro x y hx h; cases h
  | succ f ih =>
    intro x y hx h
    unfold ownF at h
    split at h
    · cases h; exact hx
    · cases e : pr S x with
      | none => rw [e, ownF_none] at h; cases h
      | some q =>
        rw [e] at h
        exact ih q y (L.kin q x (pr_in L e)).1 h
theorem ownI_live (L : Lk S K d) {x y : Nat} (h : ownI S d x = some y) : (S.at y).isSome = true := by
  unfold ownI at h
  cases e : pr S x with
  | none => rw [e, ownF_none] at h; cases h
  | some q =>
    rw [e] at h
    exact ownF_live L _ q y (L.kin q x (pr_in L e)).1 h
def dtP (S : Tr) (d : Nat → Nat) (ck : Nat → Bool) (fm by_ : Int) (x : Nat) : Bool := match S.at x with
  | some n => !(kindN n == 0) && (!(kindN n == 7) && (!(nmV n == []) && (!(attV n sDisab).isSome && (hO S (ownI S d x) == fm && (!(isCk n && !ck x) && !(kindN n == 6 && S.hd x != by_))))))
  | none => false
def dtA (S : Tr) (K : Nat → List Nat) (d : Nat → Nat) (x : Nat) : Atr := match S.at x with
  | some n => (nmV n, valN S K d x n)
  | none => ([], [])
theorem dt_same (D : DcOk S K d) {i : Nat} {n : Nd} (hi : S.at i = some n) (ck : Nat → Bool) (by_ : Int) : (ord K d).filter (dtP S d ck (S.hd i) by_) = (wlk K (128 - d i) i).filter (dtP S d ck (S.hd i) by_) := by
  have hli : (S.at i).isSome = true := by rw [hi]; rfl
  refine filter_sub (wlk_subl D _ i rfl hli) D.ord_nd _ fun x hP hx => ?_
  unfold dtP at hP
  split at hP
  · rename_i nx hnx
    simp only [Bool.and_eq_true, beq_iff_eq] at hP
    have ho := hP.2.2.2.2.1
    have hlx : (S.at x).isSome = true := by rw [hnx]; rfl
    cases e : ownI S d x with
    | none =>
      rw [e] at ho
      have := (hd_ok D.lk hi).2
      rw [← ho] at this
      simp [hO] at this
    | some y =>
      rw [e] at ho
      have hly := ownI_live D.lk e
      have hyi : y = i := D.hd_inj hly hli ho
      rw [hyi] at e
      exact sub_wlk D.lk _ i x rfl hlx hli (ownI_sub D.lk e)
  · cases hP
end
end Go.Proofs.YtacdbnhnhdlmpaaGreatDoor.W
end
