/- The law ObserveDrops. -/
import Derived.Test.YtfdofkokiaapoaaGreatDoorDrqGw
import Derived.Test.YtfdofkokiaapoaaGreatDoorGv22
import Derived.Test.YtfdofkokiaapoaaGreatDoorGv23
import Derived.Deep.RegionLaw
import Derived.RegionTactic
namespace Go.Proofs.YtfdofkokiaapoaaGreatDoor.W
open Go.RowKit
set_option linter.unusedVariables false
set_option linter.unusedSimpArgs false

/-- watches without a target, told without the filters' places -/
def dropB (l : List Wb) (x : Int) : List Wb := l.filter fun y => y.target != x
theorem dropW_bare (l : List Wt) (x : Int) : (dropW l x).map Wt.bare = dropB (l.map Wt.bare) x := by
  unfold dropW dropB
  induction l with
  | nil => rfl
  | cons y l ih =>
    rw [List.map_cons, List.filter_cons, List.filter_cons]
    have e : (y.bare.target != x) = (y.target != x) := rfl
    rw [e]
    split
    · rw [List.map_cons, ih]
    · exact ih
theorem dropW_len (l : List Wt) (x : Int) : (dropW l x).length = (dropB (l.map Wt.bare) x).length := by rw [← dropW_bare, List.length_map]
theorem dropW_sub {l : List Wt} {x : Int} {y : Wt} (h : y ∈ dropW l x) : y ∈ l := (List.mem_filter.1 h).1
/-- the loop that makes the watches that are left -/
def LfR (w : World) (L : List Wt) (x : Int) (base : List Ob) (lv iv : Value) (wr : World) : Prop :=
  ∃ m : Nat, m ≤ L.length ∧ iv = .int .i64 (m : Int) ∧ All w.heap.size w (sl 58 7 lv (dropW (L.take m) x).length (rows encW (dropW (L.take m) x)) :: base) wr
def DpZ (g12 yg yc : Nat) (ys : List Oz) (fs2 : List Fl) (R : Nat) (S : Tr) (sv fv lv : Value) (l : List Int) : List Ob := [trO R S sv fv, gl lv l] ++ (stF g12 (.slice (some ⟨yg, 0, none⟩) 3 yc) 3 ys ++ [fo fs2])
def DqR (w : World) (g1 zg zc : Nat) (zs : List Oz) (fs : List Fl) (g10 : Nat) (ts : List Tw) (x : Int) (Z : List Ob) (iv : Value) (wr : World) : Prop :=
  ∃ (k : Nat) (ts' : List Tw), k ≤ 3 ∧ iv = .int .i64 (k : Int) ∧ ts'.length = 3 ∧ (∀ (j : Nat) (t t' : Tw), ts[j]? = some t → ts'[j]? = some t' → t'.1 = if j < k then dropW t.1 x else t.1) ∧
    All w.heap.size w (stF g1 (.slice (some ⟨zg, 0, none⟩) 3 zc) 3 zs ++ (fo fs :: (bk g10 (tws ts') 36 :: (twO ts' ++ Z)))) wr

theorem dq_put {B : Nat} {w0 w : World} {X Y F K : Ob} {A T1 T2 C : List Ob} (h : All B w0 (X :: (A ++ (F :: K :: ((T1 ++ (Y :: T2)) ++ C)))) w) : All B w0 (A ++ (F :: K :: ((T1 ++ (X :: T2)) ++ C))) w := by
  have hp : (X :: (A ++ (F :: K :: ((T1 ++ (Y :: T2)) ++ C)))).Perm (A ++ (F :: K :: (T1 ++ (X :: (Y :: T2 ++ C))))) := by
    have := (List.perm_middle (a := X) (l₁ := A ++ (F :: K :: T1)) (l₂ := Y :: T2 ++ C)).symm
    simpa using this
  refine (h.perm hp).sub ?_
  have s1 : ((T1 ++ (X :: T2)) ++ C).Sublist (T1 ++ (X :: (Y :: T2 ++ C))) := by
    rw [List.append_assoc]
    exact List.Sublist.append_left (List.Sublist.cons_cons X (List.Sublist.cons Y (List.Sublist.refl _))) T1
  exact List.Sublist.append_left (List.Sublist.cons_cons F (List.Sublist.cons_cons K s1)) A
theorem tws_set {t1 t2 : List Tw} {t : Tw} (t' : Tw) {k : Nat} (hk : t1.length = k) : (tws (t1 ++ t :: t2)).set k t'.2 = tws (t1 ++ t' :: t2) := by
  subst hk
  unfold tws
  rw [List.map_append, List.map_cons, List.map_append, List.map_cons, List.set_append_right _ _ (by simp)]
  simp

theorem obF_mem {ys : List Oz} {k : Nat} {z : Ov} {a b : Value} (h : ys[k]? = some (z, a, b)) : sl 58 7 a z.ws.length (rows encW z.ws) ∈ obF ys := by
  unfold obF
  exact List.mem_flatMap.2 ⟨_, List.mem_of_getElem? h, by simp⟩

def ZE (g10 g16 : Nat) (ts : List Tw) (us : List Tu) (E : List Ob) : List Ob := bk g10 (tws ts) 36 :: bk g16 (tus us) 61 :: (twO ts ++ (toR us ++ E))
theorem rd_mid {B : Nat} {w0 w : World} {X F T V G : Ob} {A E : List Ob} {g10 g16 : Nat} {ts : List Tw} {u1 u2 : List Tu} {U : List Rc} {uv : Value} (h : All B w0 ([X] ++ (A ++ (F :: T :: V :: (G :: ZE g10 g16 ts (u1 ++ (U, uv) :: u2) E)))) w) :
    All B w0 ((X :: (A ++ (F :: T :: V :: G :: bk g10 (tws ts) 36 :: bk g16 (tus (u1 ++ (U, uv) :: u2)) 61 :: (twO ts ++ toR u1)))) ++ (rl uv U :: (toR u2 ++ E))) w := by
  unfold ZE at h
  rw [toR_split] at h
  simpa only [List.append_assoc, List.cons_append, List.nil_append] using h
theorem rd_back {B : Nat} {w0 w : World} {X F T V G : Ob} {A E : List Ob} {g10 g16 k : Nat} {ts : List Tw} {u1 u2 : List Tu} {U U2 : List Rc} {uv v2 : Value} (hk : u1.length = k) (h : All B w0 ((X :: (A ++ (F :: T :: V :: G :: bk g10 (tws ts) 36 :: bk g16 (tus (u1 ++ (U, uv) :: u2)) 61 :: (twO ts ++ toR u1)))) ++ (rl v2 U2 :: (toR u2 ++ E))) w) :
    All B w0 (A ++ (F :: T :: V :: (G :: ZE g10 g16 ts (u1 ++ (U2, v2) :: u2) E))) (w.setCell ⟨g16, k, none⟩ v2) := by
  have e : (tus (u1 ++ (U, uv) :: u2)).set k v2 = tus (u1 ++ (U2, v2) :: u2) := by
    subst hk
    unfold tus
    rw [List.map_append, List.map_cons, List.map_append, List.map_cons, List.set_append_right _ _ (by simp)]
    simp
  rw [List.cons_append] at h
  have h1 := h.tail
  have h2 := (show All B w0 ((A ++ [F, T, V, G, bk g10 (tws ts) 36]) ++ bk g16 (tus (u1 ++ (U, uv) :: u2)) 61 :: (twO ts ++ (toR u1 ++ (rl v2 U2 :: (toR u2 ++ E))))) w from by simpa only [List.append_assoc, List.cons_append, List.nil_append] using h1).setBk _ k v2
  rw [e] at h2
  unfold ZE
  rw [toR_split]
  simpa only [List.append_assoc, List.cons_append, List.nil_append] using h2
/-- what is known of an observer whose watches were dropped -/
def DrK (l : List Int) (P : Nat → List Wb) (fs : List Fl) (i j : Nat) (x : Oz) : Prop :=
  x.1.id = (j : Int) + 1 ∧ OfP l x.1 ∧ FIn fs x.1.ws ∧ x.1.ws.length ≤ 1000 ∧ (∀ y ∈ x.1.ws, y.flt.length ≤ 1000) ∧ x.1.rs.length ≤ 2 * i ∧ x.1.ws.map Wt.bare = P j
theorem drk_ok {l : List Int} {P : Nat → List Wb} {fs : List Fl} {i : Nat} {zs : List Oz} (h : ∀ (j : Nat) (x : Oz), zs[j]? = some x → DrK l P fs i j x) (hi : i ≤ 60) : ∀ z ∈ zs, OkO fs z.1 := fun z hz => by
  obtain ⟨j, hj⟩ := List.mem_iff_getElem?.1 hz
  obtain ⟨h1, h2, h3, h4, h5, h6, h7⟩ := h j z hj
  refine ⟨h3, by omega, by omega, fun x hx => ?_⟩
  have := h5 x hx
  omega
theorem drk_tg {S S' : Tr} {N : Nat} {P : Nat → List Wb} {fs : List Fl} {i : Nat} {zs : List Oz} (h : ∀ (j : Nat) (x : Oz), zs[j]? = some x → DrK (hds S N) P fs i j x) (hN : 0 < N) (hb : S'.b = S.b) (hs : S'.s = S.s) : ∀ z ∈ zs, TgO S' N z.1 := fun z hz => by
  obtain ⟨j, hj⟩ := List.mem_iff_getElem?.1 hz
  exact (h j z hj).2.1.tg hN hb hs
theorem drk_up {l : List Int} {P : Nat → List Wb} {fs : List Fl} {i : Nat} {zs zs' : List Oz} {c : Wb → Rc → Bool} {rs : List Rc} (h : ∀ (j : Nat) (x : Oz), zs[j]? = some x → DrK l P fs i j x) (he : zs'.map pz = (zs.map pz).map (upL c rs)) (hr : rs.length ≤ 2) :
    ∀ (j : Nat) (x : Oz), zs'[j]? = some x → DrK l P fs (i + 1) j x := fun j x hx => by
  obtain ⟨y, hy, e⟩ := up_at he hx
  obtain ⟨h1, h2, h3, h4, h5, h6, h7⟩ := h j y hy
  have hl := toldL_len c (y.1.ws.map Wt.bare) rs
  unfold DrK OfP
  rw [e]
  exact ⟨h1, h2, h3, h4, h5, by rw [List.length_append]; omega, h7⟩
theorem tw_ofD {l : List Int} {f : Nat → Pl4} {k pn : Nat} {x0 : Int} {L : List Wt} (h : L.map Wt.bare = dropB (plW l f k pn) x0) : ∀ x ∈ L, (∃ m, x.target = tgP l m) ∧ x.flt.length ≤ 3 := fun x hx => by
  have h1 : x.bare ∈ dropB (plW l f k pn) x0 := by rw [← h]; exact List.mem_map_of_mem hx
  obtain ⟨m, h1, h2⟩ := plW_tg l f k pn x.bare (List.mem_filter.1 h1).1
  exact ⟨⟨m, h1⟩, h2⟩
theorem dropB_len (l : List Wb) (x : Int) : (dropB l x).length ≤ l.length := List.length_filter_le _ _
def DrR2 (w : World) (P : Nat → List Wb) (n N : Nat) (S : Tr) (g1 zg zc : Nat) (fs : List Fl) (g10 g16 : Nat) (ts : List Tw) (R : Nat) (sv fv lv : Value) (E : List Ob) (iv : Value) (wr : World) : Prop :=
  ∃ (i : Nat) (S' : Tr) (K' : Nat → List Nat) (d' : Nat → Nat) (zs : List Oz) (us : List Tu), i ≤ n ∧ iv = .int .i64 (i : Int) ∧ zs.length = 3 ∧ us.length = 3 ∧ (∀ (j : Nat) (x : Oz), zs[j]? = some x → DrK (hds S N) P fs i j x) ∧
    (∀ (j : Nat) (x : Oz) (u : Tu), zs[j]? = some x → us[j]? = some u → u.1 = x.1.rs) ∧ Dc S' K' d' N ∧ S'.b = S.b ∧ S'.s = S.s ∧ All w.heap.size w (trO R S' sv fv :: gl lv (hds S N) :: (stF g1 (.slice (some ⟨zg, 0, none⟩) 3 zc) 3 zs ++ (fo fs :: ZE g10 g16 ts us E))) wr
def DrI (w : World) (c : Wb → Rc → Bool) (P : Nat → List Wb) (us : List Tu) (g1 zg zc : Nat) (zs : List Oz) (fs : List Fl) (g10 g16 : Nat) (ts : List Tw) (R : Nat) (S : Tr) (sv fv v lv : Value) (rs : List Rc) (l : List Int) (E : List Ob) (iv : Value) (wr : World) : Prop :=
  ∃ (k : Nat) (us' : List Tu), k ≤ 3 ∧ iv = .int .i64 (k : Int) ∧ us'.length = 3 ∧ (∀ (j : Nat) (u u' : Tu), us[j]? = some u → us'[j]? = some u' → u'.1 = u.1 ++ (if j < k then toldL c (P j) rs else [])) ∧
    All w.heap.size w (stF g1 (.slice (some ⟨zg, 0, none⟩) 3 zc) 3 zs ++ (fo fs :: trO R S sv fv :: rl v rs :: (gl lv l :: ZE g10 g16 ts us' E))) wr

theorem permR2 (A T C : List Ob) (F b10 b16 x y z t g : Ob) : (x :: y :: z :: b16 :: (A ++ (F :: (b10 :: (T ++ ([t, g] ++ C)))))).Perm (t :: g :: (A ++ (F :: (b10 :: b16 :: (T ++ ([x, y, z] ++ C)))))) := by
  have h1 : ([x, y, z] ++ (([b16] ++ (A ++ [F, b10])) ++ (T ++ ([t, g] ++ C)))).Perm ([x, y, z] ++ (([b16] ++ (A ++ [F, b10])) ++ ([t, g] ++ (T ++ C)))) := List.Perm.append_left _ (List.Perm.append_left _ (List.perm_append_comm_assoc _ _ _))
  have h2 : ([x, y, z] ++ (([b16] ++ (A ++ [F, b10])) ++ ([t, g] ++ (T ++ C)))).Perm ([x, y, z] ++ ([t, g] ++ (([b16] ++ (A ++ [F, b10])) ++ (T ++ C)))) := List.Perm.append_left _ (List.perm_append_comm_assoc _ _ _)
  have h3 : ([x, y, z] ++ ([t, g] ++ (([b16] ++ (A ++ [F, b10])) ++ (T ++ C)))).Perm ([t, g] ++ ([x, y, z] ++ (([b16] ++ (A ++ [F, b10])) ++ (T ++ C)))) := List.perm_append_comm_assoc _ _ _
  have h4 : ([t, g] ++ ([x, y, z] ++ (([b16] ++ (A ++ [F, b10])) ++ (T ++ C)))).Perm ([t, g] ++ (([b16] ++ (A ++ [F, b10])) ++ ([x, y, z] ++ (T ++ C)))) := List.Perm.append_left _ (List.perm_append_comm_assoc _ _ _)
  have h5 : ([t, g] ++ (([b16] ++ (A ++ [F, b10])) ++ ([x, y, z] ++ (T ++ C)))).Perm ([t, g] ++ (([b16] ++ (A ++ [F, b10])) ++ (T ++ ([x, y, z] ++ C)))) := List.Perm.append_left _ (List.Perm.append_left _ (List.perm_append_comm_assoc _ _ _))
  have h6 : ([t, g] ++ ([b16] ++ ((A ++ [F, b10]) ++ (T ++ ([x, y, z] ++ C))))).Perm ([t, g] ++ ((A ++ [F, b10]) ++ ([b16] ++ (T ++ ([x, y, z] ++ C))))) := List.Perm.append_left _ (List.perm_append_comm_assoc _ _ _)
  simp only [List.append_assoc, List.cons_append, List.nil_append] at h1 h2 h3 h4 h5 h6 ⊢
  exact h1.trans (h2.trans (h3.trans (h4.trans (h5.trans h6))))

set_option maxRecDepth 100000 in
set_option maxHeartbeats 16000000 in
theorem drp_law {w : World} (hT : Laid w) (ka : Option Addr) (kn kc : Nat) (fk : Nat → Int) (hk : InB w ka kn fk) (hk1 : ∀ j, 0 ≤ fk j ∧ fk j ≤ 255) (pa : Option Addr) (pn pc : Nat) (fp : Nat → Pl4) (hp : InP w pa pn fp) (hpo : ∀ j, (fp j).ok) (A : Option Addr) (n c : Nat) (f : Nat → Opn) (h : InO w A n f) (ho : ∀ j, (f j).ok) (hkn : kn ≤ 9223372036854775807) (hpn : pn ≤ 9223372036854775807) (hn : n ≤ 9223372036854775807) :
    Calls Tryz.prog 4 #[.slice ka kn kc, .slice pa pn pc, .slice A n c] w fun e w' => e = .returned (.bool true) ∧ Below w.heap.size w w' := by
  have HT := Lib.hid hT
  have HK := Lib.hid hk
  have HK1 := Lib.hid hk1
  have HP := Lib.hid hp
  have HPo := Lib.hid hpo
  have H := Lib.hid h
  have HO := Lib.hid ho
  clear hT hk hk1 hp hpo h ho
  go_enter Tryz.func4, Tryz.ntmps4
  go_wp2_with fail
  refine (Z.awake_any w).mono ?_
  rintro e w1 ⟨rfl, hb1⟩
  have h1 := H.out.keep hb1
  go_wp2_with fail
  refine (few_any ka kn kc A n c f h1 hkn hn).mono ?_
  rintro e w2 ⟨bf, rfl, hfew, hw⟩
  rw [hw]
  clear hw h1
  cases bf
  · go_wp2_with fail
    refine (Z.awake_any w1).mono ?_
    rintro e w3 ⟨rfl, hb3⟩
    go_wp2_with fail
    go_ret
    exact ⟨rfl, bthen hb1 hb3⟩
  · obtain ⟨hk20, hn60, hs20⟩ := hfew rfl
    clear hfew
    by_cases hp20 : 20 < pn
    · have d1 : decide ((20 : Int) < (pn : Int)) = true := by simp; omega
      go_wp2_with fail
      refine (Z.awake_any w1).mono ?_
      rintro e w3 ⟨rfl, hb3⟩
      go_wp2_with fail
      go_ret
      exact ⟨rfl, bthen hb1 hb3⟩
    · by_cases hk0 : kn = 0
      · subst hk0
        have d1 : decide ((20 : Int) < (pn : Int)) = false := by simp; omega
        go_wp2_with fail
        refine (Z.awake_any w1).mono ?_
        rintro e w3 ⟨rfl, hb3⟩
        go_wp2_with fail
        go_ret
        exact ⟨rfl, bthen hb1 hb3⟩
      have d1 : decide ((20 : Int) < (pn : Int)) = false := by simp; omega
      have dk : ((kn : Int) == 0) = false := by simp; omega
      have HDoc := Lib.hid (document_any (HT.out.below hb1) ka kn kc ((List.range kn).map fk) (fun i hi => by
        obtain ⟨b, off, e, hlt, hc⟩ := HK.out (by omega)
        refine ⟨b, off, e, ?_, ?_⟩
        · rw [List.getElem?_map, List.getElem?_range hi]
          exact cell_keep hb1 (hc i hi)
        · rw [List.getElem?_map, List.getElem?_range hi]
          exact HK1.out i) (by omega))
      have HA0 := Lib.hid ((All.start w).still hb1)
      clear hb1
      go_wp2_with fail
      refine HDoc.out.mono ?_
      rintro e w3 ⟨R, S, K, d, sv, fv, lv, rfl, hD, hA⟩
      have hlo : Own w3 3 1 lv (hds S kn).length _ := hA.tail.head
      rw [hds_len] at hlo
      obtain ⟨la, lc, rfl⟩ := own_shape hlo
      clear hlo
      have hA3 : All w.heap.size w [trO R S sv fv, gl (.slice la kn lc) (hds S kn)] w3 := HA0.out.after hA
      have HD := Lib.hid hD
      have HA3 := Lib.hid hA3
      have hl3 : Own w3 3 1 (.slice la (hds S kn).length lc) (hds S kn).length (hcells (hds S kn)) := by
        have := hA3.tail.head
        rw [show Value.slice la kn lc = .slice la (hds S kn).length lc from by rw [hds_len]] at this
        exact this
      have HW1 := Lib.hid (watched_any (l := hds S kn) pa pn pc fp (HP.out.keep hA3.below) HPo.out hl3 (by omega) (by rw [hds_len]; omega))
      simp only [hds_len] at HW1
      clear hA hA3 HDoc HA0 hD hl3
      go_wp2_with fail
      refine HW1.out.mono ?_
      rintro e w4 ⟨zg1, zc1, zs1, ts1, fs1, v0, v1, v2, rfl, hz1, ht1, ho1, hw1, hA4⟩
      have HZ1 := Lib.hid ho1
      have HZl1 := Lib.hid hz1
      have HTw := Lib.hid hw1
      obtain ⟨b0, d0, b1, d1', b2, d2, n0, n1, n2, rfl, rfl, rfl⟩ := wd_shape ht1 (fun t ht => hA4.P _ (List.mem_cons_of_mem _ (List.mem_append_right _ (List.mem_cons_of_mem _ (List.mem_map.2 ⟨t, ht, rfl⟩)))))
      have hA5 := wd_state HA3.out hA4 hz1 [.slice b0 n0 d0, .slice b1 n1 d1', .slice b2 n2 d2]
      rw [← ht1] at hA5
      have HA5 := Lib.hid hA5
      have HTs := Lib.hid ht1
      have htl : ts1.length = 3 := by have := congrArg List.length ht1; simpa [tws] using this
      have HTl := Lib.hid htl
      clear hA4 hA5 ho1 hz1 ht1 hw1 HW1 htl
      have hkz : ((kn : Int) == 0) = false := by simp; omega
      go_upto_region 7 with fail
      generalize hg1 : w4.heap.size = g1 at *
      rw [HTs.out] at HA5
      have HA6 := Lib.hid HA5.out
      clear HA5 HA3
      generalize (w4.alloc (.cells #[.slice (some ⟨zg1, 0, none⟩) 3 zc1, .slice none 0 0, .int .i64 3] 34)).alloc (.cells #[.slice b0 n0 d0, .slice b1 n1 d1', .slice b2 n2 d2] 36) = w5 at *
      rw [← HTs.out] at HA6
      generalize hg10 : g1 + 1 = g10 at *
      have hclok : ClOk fs1 zs1 := fun z hz => by
        obtain ⟨j, hj⟩ := List.mem_iff_getElem?.1 hz
        obtain ⟨h1, h2, h3, h4, h5, h6, h7, h8⟩ := dsk_start (n := n) false (HZ1.out j z hj) (by omega)
        exact ⟨h3, h4, by omega, h5⟩
      have HCl := Lib.hid (clone_st (g := g1) (zg := zg1) (zc := zc1) (nx := 3) (zs := zs1) (fs := fs1) (by rw [HZl1.out]; exact HA6.out) hclok (by rw [HZl1.out]; omega) (by rw [HZl1.out]; omega))
      clear hclok
      go_wp2_with fail
      refine HCl.out.mono ?_
      rintro e w6 ⟨yg, yc, ys, fs2, rfl, hyl, hys, hyf, hA7⟩
      rw [HZl1.out] at hyl hA7 ⊢
      have HYs := Lib.hid hys
      have HYl := Lib.hid hyl
      have hA8 := (HA6.out.after hA7).newBkA w6.heap.size rfl [.slice (some ⟨yg, 0, none⟩) 3 yc, .slice none 0 0, .int .i64 3] 34
      have HA8 := Lib.hid (hA8.perm (l' := stF g1 (.slice (some ⟨zg1, 0, none⟩) 3 zc1) 3 zs1 ++ (fo fs1 :: (bk g10 (tws ts1) 36 :: (twO ts1 ++ DpZ w6.heap.size yg yc ys fs2 R S sv fv (.slice la kn lc) (hds S kn))))) (by
        unfold DpZ stF
        rw [hyl]
        have h1 := List.perm_append_comm (l₁ := bk w6.heap.size [.slice (some ⟨yg, 0, none⟩) 3 yc, .slice none 0 0, .int .i64 3] 34 :: sl 60 4 (.slice (some ⟨yg, 0, none⟩) 3 yc) 3 (rows encO ys) :: (obF ys ++ [fo fs2])) (l₂ := (bk g1 [.slice (some ⟨zg1, 0, none⟩) 3 zc1, .slice none 0 0, .int .i64 3] 34 :: sl 60 4 (.slice (some ⟨zg1, 0, none⟩) 3 zc1) zs1.length (rows encO zs1) :: obF zs1) ++ (fo fs1 :: (bk g10 (tws ts1) 36 :: (twO ts1 ++ [trO R S sv fv, gl (.slice la kn lc) (hds S kn)]))))
        simpa only [List.append_assoc, List.cons_append, List.nil_append] using h1))
      clear hA7 hA8 hys hyl HCl HA6
      go_upto_region 8 with fail
      generalize hg12 : w6.heap.size = g12 at *
      have HA9 := Lib.hid HA8.out
      clear HA8
      generalize w6.alloc (.cells #[.slice (some ⟨yg, 0, none⟩) 3 yc, .slice none 0 0, .int .i64 3] 34) = w7 at *
      have hgl : Own w7 3 1 (.slice la kn lc) (hds S kn).length (hcells (hds S kn)) := HA9.out.P (gl (.slice la kn lc) (hds S kn)) (by simp [DpZ])
      rw [hds_len] at hgl
      obtain ⟨lg, lc', he, _⟩ := own_some hgl (by omega)
      simp only [Value.slice.injEq] at he
      obtain ⟨rfl, _, rfl⟩ := he
      have q0 := hgl.cellAt 0 (by omega)
      rw [hcells, List.getElem?_map, hds_at S kn 0 (by omega)] at q0
      simp only [Option.map_some] at q0
      have HDr := Lib.hid (drop_any (g := g1) (zg := zg1) (zc := zc1) (nx := 3) (zs := zs1) (by rw [HZl1.out]; exact HA9.out) (S.hd (0 + 1)) (by rw [HZl1.out]; omega) (fun z hz => by
        obtain ⟨j, hj⟩ := List.mem_iff_getElem?.1 hz
        obtain ⟨h1, h2, h3, h4, h5, h6, h7, h8⟩ := dsk_start (n := n) false (HZ1.out j z hj) (by omega)
        refine ⟨h4, fun y hy => ?_⟩
        obtain ⟨a, c, e⟩ := own_shape ((show (fo fs1).P w7 from HA9.out.P (fo fs1) (by simp)) _ (h3 y hy))
        exact ⟨a, _, c, e⟩))
      have hkni : (0 : Int) < (kn : Int) := by omega
      clear hgl
      go_wp2_with fail
      refine HDr.out.mono ?_
      rintro e w8 ⟨zs2, rfl, hzl2, hzd, hA10⟩
      rw [HZl1.out] at hzl2 hA10
      have HZd := Lib.hid hzd
      have HZl2 := Lib.hid hzl2
      have HA10 := Lib.hid hA10
      clear HA9 HDr hzd hzl2 hA10 q0
      have hgl : Own w8 3 1 (.slice (some ⟨lg, 0, none⟩) kn lc) (hds S kn).length (hcells (hds S kn)) := HA10.out.P (gl (.slice (some ⟨lg, 0, none⟩) kn lc) (hds S kn)) (by simp [DpZ])
      have hlg8 := own_lt hgl (k := lg) rfl
      rw [hds_len] at hgl
      have q8 := hgl.cellAt 0 (by omega)
      rw [hcells, List.getElem?_map, hds_at S kn 0 (by omega)] at q8
      simp only [Option.map_some] at q8
      have HQ8 := Lib.hid q8
      have HLG := Lib.hid hlg8
      have HB8 := Lib.hid HA10.out.below
      have HX0 := Lib.hid (rfl : S.hd (0 + 1) = S.hd (0 + 1))
      clear hgl q8 hlg8
      generalize hx0 : S.hd (0 + 1) = x0 at *
      clear HX0
      go_wp2_with fail
      go_loopw [62] (fun iv wr => DqR w g1 zg1 zc1 zs2 fs1 g10 ts1 x0 (DpZ g12 yg yc ys fs2 R S sv fv (.slice (some ⟨lg, 0, none⟩) kn lc) (hds S kn)) iv wr) (fun iv _ => 3 - (intOf iv).toNat)
      case atStart => exact ⟨0, ts1, by omega, rfl, HTl.out, (fun j t t' h h' => by rw [h] at h'; cases h'; simp), HA10.out⟩
      case round =>
        clear HA10
        obtain ⟨k, ts2, hk, rfl, htl2, htt, hA⟩ := hrel
        by_cases hkl : k < 3
        · obtain ⟨⟨L, wv⟩, htk⟩ : ∃ t, ts2[k]? = some t := ⟨_, List.getElem?_eq_getElem (by omega)⟩
          obtain ⟨⟨L0, wv0⟩, ht0⟩ : ∃ t, ts1[k]? = some t := ⟨_, List.getElem?_eq_getElem (by rw [HTl.out]; omega)⟩
          have hL := htt k _ _ ht0 htk
          rw [if_neg (Nat.lt_irrefl _)] at hL
          simp only at hL
          subst hL
          obtain ⟨htw1, htw2⟩ := HTw.out k _ ht0
          simp only at htw1 htw2
          have hLl : L.length ≤ 1000 := by
            have h1 := plW_len (hds S kn) fp k pn
            rw [← htw1, List.length_map] at h1
            omega
          obtain ⟨t1, t2, rfl, htl⟩ := split_at htk
          have hgl1 : ∀ (wx : World), All w.heap.size w (stF g1 (.slice (some ⟨zg1, 0, none⟩) 3 zc1) 3 zs2 ++ (fo fs1 :: (bk g10 (tws (t1 ++ (L, wv) :: t2)) 36 :: (twO (t1 ++ (L, wv) :: t2) ++ DpZ g12 yg yc ys fs2 R S sv fv (.slice (some ⟨lg, 0, none⟩) kn lc) (hds S kn))))) wx →
              Own wx 58 7 wv L.length (rows encW L) ∧ wx.cell? ⟨g10, k, none⟩ = some wv ∧ wx.frozen? ⟨g10, k, none⟩ = false ∧ wx.cell? ⟨lg, 0, none⟩ = some (.int .i64 x0) := fun wx h => by
            have k10 : Blk wx g10 (tws (t1 ++ (L, wv) :: t2)) 36 := h.P (bk g10 (tws (t1 ++ (L, wv) :: t2)) 36) (by simp)
            have hO : Own wx 3 1 (.slice (some ⟨lg, 0, none⟩) kn lc) (hds S kn).length (hcells (hds S kn)) := h.P (gl (.slice (some ⟨lg, 0, none⟩) kn lc) (hds S kn)) (by simp [DpZ])
            rw [hds_len] at hO
            have q8 := hO.cellAt 0 (by omega)
            rw [hcells, List.getElem?_map, hds_at S kn 0 (by omega)] at q8
            simp only [Option.map_some, hx0] at q8
            refine ⟨h.P (sl 58 7 wv L.length (rows encW L)) (by simp [twO]), (k10.cell k).trans ?_, k10.free k, q8⟩
            unfold tws
            rw [List.getElem?_map, htk]
            rfl
          obtain ⟨hOw, q10, f10, q8⟩ := hgl1 wr hA
          have hfL : ∀ y ∈ L, ∃ a n c, y.fv = .slice a n c := fun y hy => by
            obtain ⟨a, c, e⟩ := own_shape ((show (fo fs1).P wr from hA.P (fo fs1) (by simp)) _ (htw2 y hy))
            exact ⟨a, _, c, e⟩
          obtain ⟨wa, wc, rfl⟩ := own_shape hOw
          have HG1 := Lib.hid hgl1
          have HA := Lib.hid hA
          have HFl := Lib.hid hfL
          have HTt := Lib.hid htt
          have HTk := Lib.hid htk
          have HT0 := Lib.hid ht0
          have HTw1 := Lib.hid htw1
          have HLt := Lib.hid htl
          have HLt2 := Lib.hid htl2
          have hk3i : (k : Int) < 3 := by omega
          clear hA hOw hgl1 hfL htt htk ht0 htw1 htw2 htl htl2 f10 q8
          go_wp2_with fail
          go_loopw [14, 69] (fun lv iv wr2 => LfR w L x0 (stF g1 (.slice (some ⟨zg1, 0, none⟩) 3 zc1) 3 zs2 ++ (fo fs1 :: (bk g10 (tws (t1 ++ (L, .slice wa L.length wc) :: t2)) 36 :: (twO (t1 ++ (L, .slice wa L.length wc) :: t2) ++ DpZ g12 yg yc ys fs2 R S sv fv (.slice (some ⟨lg, 0, none⟩) kn lc) (hds S kn))))) lv iv wr2) (fun _ iv _ => L.length - (intOf iv).toNat)
          case atStart => exact ⟨0, Nat.zero_le _, rfl, HA.out.nil _ _⟩
          case round =>
            clear HA q10
            obtain ⟨m, hm, rfl, hA⟩ := hrel
            obtain ⟨hOw, q10, f10, q8⟩ := HG1.out wr hA.tail
            by_cases hml : m < L.length
            · have ho : Own _ _ _ _ _ _ := hA.head
              obtain ⟨oa, oc, rfl⟩ := own_shape ho
              obtain ⟨y, hy⟩ : ∃ y, L[m]? = some y := ⟨_, List.getElem?_eq_getElem hml⟩
              obtain ⟨fa, fn, fc, hfv⟩ := HFl.out y (List.mem_of_getElem? hy)
              obtain ⟨wg, wc', he, _⟩ := own_some hOw (by omega)
              simp only [Value.slice.injEq] at he
              obtain ⟨rfl, _, rfl⟩ := he
              have hq : ∀ (wx : World), Own wx 58 7 (.slice (some ⟨wg, 0, none⟩) L.length wc) L.length (rows encW L) → ∀ j, j < 7 → wx.cell? ⟨wg, m * 7 + j, none⟩ = (encW y)[j]? := fun wx h j hj => by
                rw [h.cellAt (m * 7 + j) (by omega)]
                exact rows_at (enc := encW) encW_len L m y hy j hj
              have q0 := hq wr hOw 0 (by omega)
              simp only [encW, List.getElem?_cons_zero, Nat.add_zero] at q0
              have HSu := Lib.hid (dropW_succ x0 hy)
              have HQ := Lib.hid hq
              have HFv := Lib.hid hfv
              have hdl : (dropW (L.take m) x0).length ≤ 1000 := by
                have h1 : (dropW (L.take m) x0).length ≤ (L.take m).length := List.length_filter_le _ _
                simp at h1
                omega
              generalize hD : dropW (L.take m) x0 = D at *
              have HA := Lib.hid hA
              have hml2 : (m : Int) < (L.length : Int) := by omega
              have hkni : (0 : Int) < (kn : Int) := by omega
              clear hA ho hOw hy hq hfv hD
              by_cases hyx : y.target = x0
              · have e1 : (y.target != x0) = false := by simpa using hyx
                rw [if_pos hyx, List.append_nil] at HSu
                clear hyx
                go_wp2_with fail
                go_quiet (fail)
                have HA2 := Lib.hid (HA.out.drewN nq)
                clear q0 q10 q8 HA
                generalize wr.drewN nq = w9 at *
                go_wp2_with fail
                go_roundw
                case rel => exact ⟨m + 1, by omega, by go_num, by rw [HSu.out]; exact HA2.out⟩
                case measure => simp [intOf]; omega
              · have e1 : (y.target != x0) = true := by simpa using hyx
                rw [if_neg hyx] at HSu
                clear hyx
                go_wp2_with fail
                go_quiet (fail)
                have hA2 := HA.out.drewN nq
                obtain ⟨hOw2, q10b, _, q8b⟩ := HG1.out _ hA2.tail
                have hq2 := HQ.out _ hOw2
                have HA2 := Lib.hid hA2
                clear q0 q10 q8 HA hA2 hOw2
                generalize wr.drewN nq = w9 at *
                have p0 := hq2 0 (by omega)
                have p1 := hq2 1 (by omega)
                have p2 := hq2 2 (by omega)
                have p3 := hq2 3 (by omega)
                have p4 := hq2 4 (by omega)
                have p5 := hq2 5 (by omega)
                have p6 := hq2 6 (by omega)
                simp only [encW, HFv.out, Nat.add_zero, List.getElem?_cons_zero, List.getElem?_cons_succ] at p0 p1 p2 p3 p4 p5 p6
                have H9 := Lib.hid (show All w.heap.size w ([] ++ sl 58 7 (.slice oa D.length oc) D.length (rows encW D) :: _) _ from HA2.out.alloc (.cells #[.int .i64 y.target, .bool y.kids, .bool y.attrs, .bool y.data, .bool y.sub, .bool y.old, .slice fa fn fc] 58))
                clear hq2 HA2 HQ
                go_wp2_with (at_builtin; refine wpList_append_all etW [] H9.out (own_at (n := 1) (size := 7) (Blk.new w9 [.int .i64 y.target, .bool y.kids, .bool y.attrs, .bool y.data, .bool y.sub, .bool y.old, .slice fa fn fc] 58) rfl (by omega)) (by intro u hu; simp at hu; rcases hu with rfl | rfl | rfl | rfl | rfl | rfl | rfl <;> rfl) (by omega) (by omega) rfl _ _ rfl rfl rfl ?_; intro v' w10 hA3; have HB3 := Lib.hid hA3; clear hA3)
                go_roundw
                case rel =>
                  refine ⟨m + 1, by omega, by go_num, ?_⟩
                  rw [HSu.out, rows_snoc, List.length_append]
                  have h1 := HB3.out
                  simp only [List.nil_append] at h1
                  have e1 : encW y = [.int .i64 y.target, .bool y.kids, .bool y.attrs, .bool y.data, .bool y.sub, .bool y.old, .slice fa fn fc] := by unfold encW; rw [HFv.out]
                  rw [← e1] at h1
                  exact h1
                case measure => simp [intOf]; omega
            · obtain rfl : m = L.length := by omega
              rw [List.take_length] at hA
              have ho : Own _ _ _ _ _ _ := hA.head
              obtain ⟨oa, oc, rfl⟩ := own_shape ho
              have kst : Blk wr g1 [.slice (some ⟨zg1, 0, none⟩) 3 zc1, .slice none 0 0, .int .i64 3] 34 := hA.tail.head
              have c0 := kst.cell 0
              have hrow : Own wr 60 4 (.slice (some ⟨zg1, 0, none⟩) 3 zc1) zs2.length (rows encO zs2) := hA.tail.tail.head
              rw [HZl2.out] at hrow
              obtain ⟨⟨z2, a2, bb2⟩, hz2⟩ : ∃ x, zs2[k]? = some x := ⟨_, List.getElem?_eq_getElem (by rw [HZl2.out]; omega)⟩
              have a2c := (hrow.cellAt (k * 4 + 2) (by omega)).trans (rows_at (enc := encO) encO_len zs2 k _ hz2 2 (by decide))
              have hoa2 := (st_own hA.tail hz2).1
              have kst2 : Blk wr g12 [.slice (some ⟨yg, 0, none⟩) 3 yc, .slice none 0 0, .int .i64 3] 34 := hA.P (bk g12 [.slice (some ⟨yg, 0, none⟩) 3 yc, .slice none 0 0, .int .i64 3] 34) (by simp [DpZ, stF])
              have c1 := kst2.cell 0
              have hrow2 : Own wr 60 4 (.slice (some ⟨yg, 0, none⟩) 3 yc) ys.length (rows encO ys) := hA.P (sl 60 4 (.slice (some ⟨yg, 0, none⟩) 3 yc) ys.length (rows encO ys)) (by simp [DpZ, stF])
              rw [HYl.out] at hrow2
              obtain ⟨⟨y2, ya, yb⟩, hy2⟩ : ∃ x, ys[k]? = some x := ⟨_, List.getElem?_eq_getElem (by rw [HYl.out]; omega)⟩
              have yac := (hrow2.cellAt (k * 4 + 2) (by omega)).trans (rows_at (enc := encO) encO_len ys k _ hy2 2 (by decide))
              have hoya : Own wr 58 7 ya y2.ws.length (rows encW y2.ws) := hA.P (sl 58 7 ya y2.ws.length (rows encW y2.ws)) (by
                have := obF_mem hy2
                simp only [DpZ, stF, List.mem_append, List.mem_cons]
                simp [this])
              obtain ⟨x1, hx1⟩ : ∃ x, zs1[k]? = some x := ⟨_, List.getElem?_eq_getElem (by rw [HZl1.out]; omega)⟩
              have hzz := HZd.out k x1 _ hx1 hz2
              have hyy := (HYs.out k x1 _ hx1 hy2).2.2.2
              have hxb := (HZ1.out k x1 hx1).2.2.2.1
              simp only at hzz hyy
              have e1 : z2.ws.length = (dropW L x0).length := by
                rw [hzz]
                show (dropW x1.1.ws x0).length = _
                rw [dropW_len, dropW_len, hxb, HTw1.out]
              have e2 : y2.ws.length = L.length := by
                have h1 := congrArg List.length hyy
                have h2 := congrArg List.length (HTw1.out.trans hxb.symm)
                simp only [List.length_map] at h1 h2
                rw [h1, h2]
              rw [e1] at hoa2
              rw [e2] at hoya
              obtain ⟨a2a, a2cc, rfl⟩ := own_shape hoa2
              obtain ⟨yaa, yacc, rfl⟩ := own_shape hoya
              simp only [encO, List.getElem?_cons_zero, List.getElem?_cons_succ] at a2c yac c0 c1
              have HA := Lib.hid hA
              have HTT := Lib.hid (show ∀ (j : Nat) (t t' : Tw), ts1[j]? = some t → (t1 ++ (dropW L x0, Value.slice oa (dropW L x0).length oc) :: t2)[j]? = some t' → t'.1 = if j < k + 1 then dropW t.1 x0 else t.1 from fun j t t' ht ht' => by
                rcases get_upd (x := (L, Value.slice wa L.length wc)) ht' with ⟨hj, rfl⟩ | ⟨hj, ht'⟩
                · rw [HLt.out] at hj
                  subst hj
                  rw [HT0.out] at ht
                  cases ht
                  rw [if_pos (Nat.lt_succ_self _)]
                · rw [HLt.out] at hj
                  rw [HTt.out j t t' ht ht']
                  by_cases hjk : j < k
                  · rw [if_pos hjk, if_pos (by omega)]
                  · rw [if_neg hjk, if_neg (by omega)])
              clear hA ho kst hrow hz2 hoa2 kst2 hrow2 hy2 hoya hx1 hzz hyy hxb e1 e2 hOw f10 q8
              generalize hn0 : (dropW L x0).length = n0 at *
              have HN0 := Lib.hid hn0
              clear hn0
              have e3 : ((n0 : Int) != (n0 : Int)) = false := by simp
              have e4 : ((L.length : Int) != (L.length : Int)) = false := by simp
              go_upto_region 19 with fail
              go_quiet (fail)
              have hA2 := HA.out.drewN nq
              obtain ⟨_, q10b, f10b, _⟩ := HG1.out _ hA2.tail
              have HA2 := Lib.hid hA2
              clear c0 c1 a2c yac q10 HA hA2
              generalize wr.drewN nq = w9 at *
              go_wp2_with fail
              refine ⟨⟨k + 1, t1 ++ (dropW L x0, .slice oa n0 oc) :: t2, by omega, by go_num, by rw [← HLt2.out]; simp, HTT.out, ?_⟩, by simp [intOf]; omega⟩
              have h1 := HA2.out
              have h2 : All w.heap.size w (sl 58 7 (.slice oa n0 oc) (dropW L x0).length (rows encW (dropW L x0)) :: (stF g1 (.slice (some ⟨zg1, 0, none⟩) 3 zc1) 3 zs2 ++ (fo fs1 :: (bk g10 (tws (t1 ++ (L, .slice wa L.length wc) :: t2)) 36 :: ((twO t1 ++ (sl 58 7 (.slice wa L.length wc) L.length (rows encW L) :: twO t2)) ++ DpZ g12 yg yc ys fs2 R S sv fv (.slice (some ⟨lg, 0, none⟩) kn lc) (hds S kn)))))) w9 := by
                rw [HN0.out]
                rw [twO_split] at h1
                exact h1
              have h3 := dq_put h2
              have h4 := (show All w.heap.size w ((stF g1 (.slice (some ⟨zg1, 0, none⟩) 3 zc1) 3 zs2 ++ [fo fs1]) ++ bk g10 (tws (t1 ++ (L, .slice wa L.length wc) :: t2)) 36 :: ((twO t1 ++ (sl 58 7 (.slice oa n0 oc) (dropW L x0).length (rows encW (dropW L x0)) :: twO t2)) ++ DpZ g12 yg yc ys fs2 R S sv fv (.slice (some ⟨lg, 0, none⟩) kn lc) (hds S kn))) w9 from by simpa only [List.append_assoc, List.cons_append, List.nil_append] using h3).setBk _ k (.slice oa n0 oc)
              rw [tws_set (dropW L x0, .slice oa n0 oc) HLt.out] at h4
              rw [twO_split]
              simpa only [List.append_assoc, List.cons_append, List.nil_append] using h4
        · obtain rfl : k = 3 := by omega
          have hP : ∀ (j : Nat) (t : Tw), ts2[j]? = some t → t.1.map Wt.bare = dropB (plW (hds S kn) fp j pn) x0 ∧ FIn fs1 t.1 := fun j t ht => by
            have hj3 : j < 3 := by have := (List.getElem?_eq_some_iff.1 ht).1; omega
            obtain ⟨t0, ht0⟩ : ∃ t, ts1[j]? = some t := ⟨_, List.getElem?_eq_getElem (by rw [HTl.out]; exact hj3)⟩
            have h1 := htt j t0 t ht0 ht
            rw [if_pos hj3] at h1
            obtain ⟨h2, h3⟩ := HTw.out j t0 ht0
            rw [h1, dropW_bare, h2]
            exact ⟨rfl, fun y hy => h3 y (dropW_sub hy)⟩
          have hZ : ∀ (j : Nat) (x : Oz), zs2[j]? = some x → DrK (hds S kn) (fun j => dropB (plW (hds S kn) fp j pn) x0) fs1 0 j x ∧ x.1.rs = [] := fun j x hx => by
            have hj3 : j < 3 := by have := (List.getElem?_eq_some_iff.1 hx).1; rw [HZl2.out] at this; exact this
            obtain ⟨y, hy⟩ : ∃ y, zs1[j]? = some y := ⟨_, List.getElem?_eq_getElem (by rw [HZl1.out]; exact hj3)⟩
            have h0 := HZ1.out j y hy
            obtain ⟨h1, h2, h3, h4, h5, h6, h7, h8⟩ := dsk_start (n := n) false h0 (by omega)
            have e := HZd.out j y x hy hx
            unfold DrK OfP
            rw [e]
            refine ⟨⟨h1, fun u hu => h2 u (dropW_sub hu), fun u hu => h3 u (dropW_sub hu), ?_, fun u hu => h5 u (dropW_sub hu), h6, ?_⟩, h0.2.2.1⟩
            · have : (dropW y.1.ws x0).length ≤ y.1.ws.length := List.length_filter_le _ _
              show (dropW y.1.ws x0).length ≤ 1000
              omega
            · show (dropW y.1.ws x0).map Wt.bare = _
              rw [dropW_bare, h0.2.2.2.1]
          have hys : ∀ (j : Nat) (y : Oz), ys[j]? = some y → y.1.rs = [] := fun j y hy => by
            have hj3 : j < 3 := by have := (List.getElem?_eq_some_iff.1 hy).1; rw [HYl.out] at this; exact this
            obtain ⟨x, hx⟩ : ∃ x, zs1[j]? = some x := ⟨_, List.getElem?_eq_getElem (by rw [HZl1.out]; exact hj3)⟩
            rw [(HYs.out j x y hx hy).2.2.1]
            exact (HZ1.out j x hx).2.2.1
          have HPl := Lib.hid (show ∀ j, (dropB (plW (hds S kn) fp j pn) x0).length ≤ 20 from fun j => Nat.le_trans (dropB_len _ _) (Nat.le_trans (plW_len _ _ _ _) (by omega)))
          have HPm := Lib.hid (show ∀ (j : Nat) (L : List Wt), L.map Wt.bare = dropB (plW (hds S kn) fp j pn) x0 → ∀ x ∈ L, (∃ m, x.target = tgP (hds S kn) m) ∧ x.flt.length ≤ 3 from fun j L h => tw_ofD h)
          have HYr := Lib.hid hys
          have HZz := Lib.hid hZ
          have hA' := hA.newBkA wr.heap.size rfl [.slice none 0 0, .slice none 0 0, .slice none 0 0] 61
          have HA' := Lib.hid hA'
          have HTl2 := Lib.hid htl2
          clear HTw HTl HTs HZ1 HZl1 HZd HYs htt hA hA' hys hZ htl2 HQ8 HLG HB8
          have HTw := Lib.hid hP
          have HTl : Hid (ts2.length = 3) := HTl2
          clear hP HTl2
          generalize hPe : (fun j => dropB (plW (hds S kn) fp j pn) x0) = P at *
          have HPl : Hid (∀ j, (P j).length ≤ 20) := by subst hPe; exact HPl
          have HPm : Hid (∀ (j : Nat) (L : List Wt), L.map Wt.bare = P j → ∀ x ∈ L, (∃ m, x.target = tgP (hds S kn) m) ∧ x.flt.length ≤ 3) := by subst hPe; exact HPm
          have HTw : Hid (∀ (j : Nat) (t : Tw), ts2[j]? = some t → t.1.map Wt.bare = P j ∧ FIn fs1 t.1) := by subst hPe; exact HTw
          clear hPe
          go_upto_region 24 with fail
          generalize hg16 : wr.heap.size = g16 at *
          have HA6 := Lib.hid HA'.out
          clear HA'
          generalize wr.alloc (.cells #[.slice none 0 0, .slice none 0 0, .slice none 0 0] 61) = w9 at *
          have HA7 : Hid (All w.heap.size w (trO R S sv fv :: gl (.slice (some ⟨lg, 0, none⟩) kn lc) (hds S kn) :: (stF g1 (.slice (some ⟨zg1, 0, none⟩) 3 zc1) 3 zs2 ++ (fo fs1 :: ZE g10 g16 ts2 [([], .slice none 0 0), ([], .slice none 0 0), ([], .slice none 0 0)] (stF g12 (.slice (some ⟨yg, 0, none⟩) 3 yc) 3 ys ++ [fo fs2])))) w9) := Lib.hid (by
            have h1 := ((HA6.out.nil 86 11).nil 86 11).nil 86 11
            exact h1.perm (permR2 _ _ _ _ _ _ _ _ _ _ _))
          clear HA6
          generalize hEe : stF g12 (.slice (some ⟨yg, 0, none⟩) 3 yc) 3 ys ++ [fo fs2] = E at *
          have HE := Lib.hid hEe
          clear hEe
          go_wp2_with fail
          go_loopw [123] (fun iv wr => DrR2 w P n kn S g1 zg1 zc1 fs1 g10 g16 ts2 R sv fv (.slice (some ⟨lg, 0, none⟩) kn lc) E iv wr) (fun iv _ => n - (intOf iv).toNat)
          case atStart =>
            refine ⟨0, S, K, d, zs2, _, Nat.zero_le _, rfl, HZl2.out, rfl, fun j x hx => (HZz.out j x hx).1, fun j x u hx hu => ?_, HD.out, rfl, rfl, HA7.out⟩
            rw [(HZz.out j x hx).2]
            have := List.mem_of_getElem? hu
            simp at this
            rw [this]
          case round =>
            clear HA7
            obtain ⟨i, S', K', d', y1, us, hi, rfl, hl1, hlu, hy1, hru, hD', hb', hs', hA⟩ := hrel
            by_cases hin : i < n
            · have hbel := hA.below
              obtain ⟨ob, oo, rfl, hol, hc⟩ := H.out (by omega)
              obtain ⟨q0, q1, q2, q3, q4⟩ := hc i hin
              have hok := HO.out i
              have hsz := hs20 i hin
              generalize f i = opn at q0 q1 q2 q3 q4 hok hsz
              obtain ⟨k0, a0, b0, c0, os⟩ := opn
              unfold Opn.ok at hok
              (try simp only at q0 q1 q2 q3 q4 hok hsz)
              obtain ⟨k0, rfl⟩ := Int.eq_ofNat_of_zero_le hok.1.1
              obtain ⟨a0, rfl⟩ := Int.eq_ofNat_of_zero_le hok.2.1.1
              obtain ⟨b0, rfl⟩ := Int.eq_ofNat_of_zero_le hok.2.2.1.1
              obtain ⟨c0, rfl⟩ := Int.eq_ofNat_of_zero_le hok.2.2.2.1
              obtain ⟨sl0, rfl⟩ : ∃ sl0 : List UInt8, os = ⟨sl0.toArray⟩ := ⟨os.data.toList, rfl⟩
              have hsl0 : sl0.length ≤ 20 := by
                have : (⟨sl0.toArray⟩ : ByteArray).size = sl0.length := by show sl0.toArray.size = _; simp
                omega
              have q0 := cell_keep hbel q0
              have q1 := cell_keep hbel q1
              have q2 := cell_keep hbel q2
              have q3 := cell_keep hbel q3
              have q4 := cell_keep hbel q4
              have HMu := Lib.hid (mutate_tg (N := kn) hD' (show All w.heap.size w (trO R S' sv fv :: gl (.slice (some ⟨lg, 0, none⟩) kn lc) (hds S' kn) :: (stF g1 (.slice (some ⟨zg1, 0, none⟩) 3 zc1) 3 y1 ++ (fo fs1 :: ZE g10 g16 ts2 us E))) wr from by rw [hds_same hb' hs']; exact hA) (HT.out.below hbel) k0 a0 b0 c0 (by omega) (by omega) (by omega) (by omega) sl0 (by omega) (by omega))
              simp only [strV] at HMu
              have HL1 := Lib.hid hl1
              have HLu := Lib.hid hlu
              have HY1 := Lib.hid hy1
              have HRu := Lib.hid hru
              clear hA hc hok hsz hbel hl1 hlu hy1 hru hD'
              go_wp2_with fail
              refine HMu.out.mono ?_
              rintro e w9 ⟨S2, K2, d2, v, rs, rfl, hD2, hb2, hs2, hgd, hrs2, hpos, hA9⟩
              rw [hds_same hb' hs'] at hA9
              have hb3 : S2.b = S.b := hb2.trans hb'
              have hs3 : S2.s = S.s := hs2.trans hs'
              have hA10 : All w.heap.size w (NgO g1 zg1 y1.length zc1 3 y1 fs1 R S2 sv fv v rs (gl (.slice (some ⟨lg, 0, none⟩) kn lc) (hds S kn) :: ZE g10 g16 ts2 us E)) w9 := by
                rw [HL1.out]
                exact hA9.perm (permD2 _ _ _ _ _ _)
              have HN1 := Lib.hid (note_any hD2 hA10 hgd (drk_ok HY1.out (by omega)) (fun hne => drk_tg HY1.out (hpos hne) hb3 hs3) (by omega) (by rw [HL1.out]; omega))
              rw [HL1.out] at HN1
              have HD2 := Lib.hid hD2
              have HB3 := Lib.hid hb3
              have HS3 := Lib.hid hs3
              have HGd := Lib.hid hgd
              have HPos := Lib.hid hpos
              clear hA9 hA10 HMu hD2 hb2 hs2 hb' hs' hb3 hs3 hgd hpos q0 q1 q2 q3 q4
              go_wp2_with fail
              refine HN1.out.mono ?_
              rintro e w10 ⟨y1', rfl, he1, hA11⟩
              have hl1' : y1'.length = 3 := by rw [up_len he1, HL1.out]
              have HL1' := Lib.hid hl1'
              have HE1 := Lib.hid he1
              have HA11 := Lib.hid (show All w.heap.size w (stF g1 (.slice (some ⟨zg1, 0, none⟩) 3 zc1) 3 y1' ++ (fo fs1 :: trO R S2 sv fv :: rl v rs :: (gl (.slice (some ⟨lg, 0, none⟩) kn lc) (hds S kn) :: ZE g10 g16 ts2 us E))) w10 from hA11)
              clear hA11 HN1 he1 hl1'
              go_wp2_with fail
              go_loopw [136] (fun iv wr2 => DrI w (covB S2 d2 kn) P us g1 zg1 zc1 y1' fs1 g10 g16 ts2 R S2 sv fv v (.slice (some ⟨lg, 0, none⟩) kn lc) rs (hds S kn) E iv wr2) (fun iv _ => 3 - (intOf iv).toNat)
              case atStart => exact ⟨0, us, by omega, rfl, HLu.out, (fun j u u' hu hu' => by rw [hu] at hu'; cases hu'; simp), HA11.out⟩
              case round =>
                clear HA11
                obtain ⟨k, us', hk, rfl, hlu', huu, hA⟩ := hrel
                by_cases hkl : k < 3
                · obtain ⟨⟨U, uv⟩, huk⟩ : ∃ u, us'[k]? = some u := ⟨_, List.getElem?_eq_getElem (by omega)⟩
                  obtain ⟨⟨L, wv⟩, htk⟩ : ∃ t, ts2[k]? = some t := ⟨_, List.getElem?_eq_getElem (by rw [HTl.out]; omega)⟩
                  obtain ⟨⟨U0, uv0⟩, hu0⟩ : ∃ u, us[k]? = some u := ⟨_, List.getElem?_eq_getElem (by rw [HLu.out]; omega)⟩
                  obtain ⟨htk1, htk2⟩ := HTw.out k _ htk
                  have hU := huu k _ _ hu0 huk
                  rw [if_neg (Nat.lt_irrefl _), List.append_nil] at hU
                  simp only at htk1 htk2 hU
                  have hOw : Own wr 58 7 wv L.length (rows encW L) := hA.P (sl 58 7 wv L.length (rows encW L)) (by
                    simp only [ZE, twO, List.mem_append, List.mem_cons, List.mem_map]
                    exact .inr (.inr (.inr (.inr (.inr (.inr (.inr (.inl ⟨(L, wv), List.mem_of_getElem? htk, rfl⟩))))))))
                  have hOu : Own wr 86 11 uv U.length (rows encR U) := hA.P (rl uv U) (by
                    simp only [ZE, toR, List.mem_append, List.mem_cons, List.mem_map]
                    exact .inr (.inr (.inr (.inr (.inr (.inr (.inr (.inr (.inl ⟨(U, uv), List.mem_of_getElem? huk, rfl⟩)))))))))
                  have hOv : Own wr 86 11 v rs.length (rows encR rs) := hA.P (rl v rs) (by simp)
                  have k10 : Blk wr g10 (tws ts2) 36 := hA.P (bk g10 (tws ts2) 36) (by simp [ZE])
                  have k12 : Blk wr g16 (tus us') 61 := hA.P (bk g16 (tus us') 61) (by simp [ZE])
                  have q10 := (k10.cell k).trans (show (tws ts2)[k]? = some wv from by unfold tws; rw [List.getElem?_map, htk]; rfl)
                  have hc12 : (tus us')[k]? = some uv := by unfold tus; rw [List.getElem?_map, huk]; rfl
                  have q12 := (k12.cell k).trans hc12
                  obtain ⟨wa, wc, rfl⟩ := own_shape hOw
                  obtain ⟨ua, uc, rfl⟩ := own_shape hOu
                  have hLl : L.length ≤ 20 := by
                    have h1 := HPl.out k
                    rw [← htk1, List.length_map] at h1
                    omega
                  have hUl : U.length ≤ 120 := by
                    obtain ⟨x, hx⟩ : ∃ x, y1[k]? = some x := ⟨_, List.getElem?_eq_getElem (by rw [HL1.out]; omega)⟩
                    have h1 := HRu.out k x _ hx hu0
                    have h2 := (HY1.out k x hx).2.2.2.2.2.1
                    simp only at h1
                    rw [hU, h1]
                    omega
                  have HNt := Lib.hid (fun (wx : World) (hb : Below wr.heap.size wr wx) => noted_any (fs := fs1) HD2.out ((show TAt 0 R S2 sv fv wr from hA.P (trO R S2 sv fv) (by simp)).below hb) (own_below hOw hb) ((hA.still hb).P (fo fs1) (by simp)) htk2 (fun hne => (show OfP (hds S kn) ⟨0, 0, L, []⟩ from fun x hx => (HPm.out k L htk1 x hx).1).tg (HPos.out hne) HB3.out HS3.out) (fun x hx => Nat.le_trans (HPm.out k L htk1 x hx).2 (by omega)) (own_below hOv hb) HGd.out (by omega) (by omega))
                  have hk3i : (k : Int) < 3 := by omega
                  have HA := Lib.hid hA
                  have HUU := Lib.hid huu
                  have HLu' := Lib.hid hlu'
                  have HU := Lib.hid hU
                  have HU0 := Lib.hid hu0
                  have HTk1 := Lib.hid htk1
                  have htl := toldL_len (covB S2 d2 kn) (L.map Wt.bare) rs
                  rw [htk1] at htl HNt
                  generalize hTT : toldL (covB S2 d2 kn) (P k) rs = TT at *
                  have HTT := Lib.hid hTT
                  obtain ⟨u1, u2, rfl, hku⟩ := split_at huk
                  have HKu := Lib.hid hku
                  have HC12 := Lib.hid hc12
                  clear hA hOw hOu hOv k10 k12 hc12 huk htk huu hlu' hU hu0 htk1 htk2 hTT hku
                  go_upto_region 32 with fail
                  go_region_law (first
                    | (go_simp; go_at_call 17; refine (HNt.out _ ((Below.refl _ _).drew)).mono ?_; rintro e w6 ⟨v', rfl, hA9⟩; have ho9 : Own _ _ _ _ _ _ := hA9.head; obtain ⟨ta, tc, rfl⟩ := own_shape ho9; have T2 := Lib.hid ho9; have T1 := Lib.hid (rd_mid (HA.out.drew.after hA9)); have k12 : Blk w6 g16 (tus (u1 ++ (U, .slice ua U.length uc) :: u2)) 61 := T1.out.P (bk g16 (tus (u1 ++ (U, .slice ua U.length uc) :: u2)) 61) (by simp); have q12b := (k12.cell k).trans HC12.out; clear hA9 ho9 k12)
                    | (refine step_append_all etR (_ :: (_ ++ (_ :: _ :: _ :: _ :: _ :: _ :: (_ ++ _)))) T1.out T2.out (rows_one encR_one TT) (by omega) (by omega) (by rfl) _ _ (by rfl) (by rfl) (by rfl) ?_; intro v2 w7 hA13; have ho : Own _ _ _ _ _ _ := hA13.P (sl 86 11 v2 (U.length + TT.length) (rows encR U ++ rows encR TT)) (by simp); obtain ⟨ea, ec, rfl⟩ := own_shape ho; have k12 : Blk w7 g16 (tus (u1 ++ (U, .slice ua U.length uc) :: u2)) 61 := hA13.P (bk g16 (tus (u1 ++ (U, .slice ua U.length uc) :: u2)) 61) (by simp); have q12c := (k12.cell k).trans HC12.out; have f12c := k12.free k; have HA13 := Lib.hid hA13; clear hA13 ho k12))
                  all_goals
                    go_wp2_with fail
                    have h1 := HA13.out
                    generalize Value.slice ea (U.length + TT.length) ec = V at h1 ⊢
                    rw [← rows_append, ← List.length_append] at h1
                    refine ⟨⟨k + 1, u1 ++ (U ++ TT, V) :: u2, by omega, by go_num, by rw [← HLu'.out]; simp, fun j u u' hu hu' => ?_, rd_back HKu.out h1⟩, by simp [intOf]; omega⟩
                    rcases get_upd (x := (U, .slice ua U.length uc)) hu' with ⟨hj, rfl⟩ | ⟨hj, hu'⟩
                    · rw [HKu.out] at hj
                      subst hj
                      rw [HU0.out] at hu
                      cases hu
                      rw [if_pos (Nat.lt_succ_self _)]
                      show U ++ TT = U0 ++ toldL (covB S2 d2 kn) (P j) rs
                      rw [HU.out, HTT.out]
                    · rw [HKu.out] at hj
                      rw [HUU.out j u u' hu hu']
                      by_cases hjk : j < k
                      · rw [if_pos hjk, if_pos (by omega)]
                      · rw [if_neg hjk, if_neg (by omega)]
                · obtain rfl : k = 3 := by omega
                  have HA := Lib.hid hA
                  have HUU := Lib.hid huu
                  clear hA huu
                  go_wp2_with fail
                  refine ⟨?_, by simp [intOf]; omega⟩
                  (repeat apply Exists.intro)
                  refine ⟨⟨i + 1, S2, K2, d2, y1', us', by omega, by go_num, HL1'.out, hlu', drk_up HY1.out HE1.out hrs2, fun j x u hx hu => ?_, HD2.out, HB3.out, HS3.out, (HA.out.perm (permD2 _ _ _ _ _ _).symm).tail⟩, rfl⟩
                  obtain ⟨y, hy, e⟩ := up_at HE1.out hx
                  have hj3 : j < 3 := by have := (List.getElem?_eq_some_iff.1 hu).1; omega
                  obtain ⟨u0, hu0⟩ : ∃ u0, us[j]? = some u0 := ⟨_, List.getElem?_eq_getElem (by rw [HLu.out]; exact hj3)⟩
                  have h1 := HUU.out j u0 u hu0 hu
                  rw [if_pos hj3] at h1
                  rw [h1, HRu.out j y u0 hy hu0, e]
                  show y.1.rs ++ toldL (covB S2 d2 kn) (P j) rs = y.1.rs ++ toldL (covB S2 d2 kn) (y.1.ws.map Wt.bare) rs
                  rw [(HY1.out j y hy).2.2.2.2.2.2]
            · obtain rfl : i = n := by omega
              have hA2 := (show All w.heap.size w ([trO R S' sv fv, gl (.slice (some ⟨lg, 0, none⟩) kn lc) (hds S kn)] ++ (stF g1 (.slice (some ⟨zg1, 0, none⟩) 3 zc1) 3 y1 ++ (fo fs1 :: ZE g10 g16 ts2 us E))) wr from hA).perm (List.perm_append_comm_assoc _ _ _)
              have HA2 := Lib.hid hA2
              have HY1 := Lib.hid hy1
              have HRu := Lib.hid hru
              have HLu := Lib.hid hlu
              clear hA hA2 hy1 hru hlu hD' hb' hs'
              go_wp2_with fail
              go_loopw [153] (fun iv wr2 => RcT w us g1 zg1 zc1 ([trO R S' sv fv, gl (.slice (some ⟨lg, 0, none⟩) kn lc) (hds S kn)] ++ (fo fs1 :: ZE g10 g16 ts2 us E)) iv wr2) (fun iv _ => 3 - (intOf iv).toNat)
              case atStart =>
                refine ⟨0, y1, [], by omega, rfl, hl1, fun j x u hx hu => ⟨(HY1.out j x hx).1, ?_⟩, HA2.out⟩
                rw [if_neg (Nat.not_lt_zero _)]
                exact (HRu.out j x u hx hu).symm
              case round =>
                clear HA2
                obtain ⟨k, y2, l', hk, rfl, hl2, hy2, hA⟩ := hrel
                by_cases hkl : k < 3
                · obtain ⟨⟨z, a, b⟩, hz⟩ : ∃ x, y2[k]? = some x := ⟨_, List.getElem?_eq_getElem (by omega)⟩
                  obtain ⟨⟨U, uv⟩, hu⟩ : ∃ u, us[k]? = some u := ⟨_, List.getElem?_eq_getElem (by rw [HLu.out]; omega)⟩
                  obtain ⟨hid, hrs⟩ := hy2 k _ _ hz hu
                  rw [if_neg (Nat.lt_irrefl _)] at hrs
                  simp only at hid hrs
                  obtain ⟨zz1, zz2, rfl, hzl⟩ := split_at hz
                  have hA3 : All w.heap.size w (stF g1 (.slice (some ⟨zg1, 0, none⟩) (zz1 ++ (z, a, b) :: zz2).length zc1) 3 (zz1 ++ (z, a, b) :: zz2) ++ (l' ++ ([trO R S' sv fv, gl (.slice (some ⟨lg, 0, none⟩) kn lc) (hds S kn)] ++ (fo fs1 :: ZE g10 g16 ts2 us E)))) wr := by
                    rw [hl2]
                    exact hA
                  have hn1 : ∀ y ∈ zz1, y.1.id ≠ z.id := fun y hy => by
                    obtain ⟨j, hj⟩ := List.mem_iff_getElem?.1 hy
                    have hjl : j < zz1.length := (List.getElem?_eq_some_iff.1 hj).1
                    obtain ⟨u, hu⟩ : ∃ u, us[j]? = some u := ⟨_, List.getElem?_eq_getElem (by rw [HLu.out]; omega)⟩
                    have := (hy2 j y u (by rw [List.getElem?_append_left hjl]; exact hj) hu).1
                    rw [this, hid]
                    omega
                  have HT1 := Lib.hid (take_obF (z := z) hA3 hn1 (by rw [hl2]; omega))
                  have HY2 := Lib.hid hy2
                  have HL2 := Lib.hid hl2
                  have HZl := Lib.hid hzl
                  have HN1 := Lib.hid hn1
                  have HU := Lib.hid hu
                  have HRs := Lib.hid hrs
                  have HId := Lib.hid hid
                  rw [hid] at HT1
                  clear hA hA3 hy2 hl2 hzl hn1 hz hu hrs
                  go_wp2_with fail
                  refine HT1.out.mono ?_
                  rintro e w9 ⟨rfl, hA4⟩
                  rw [HL2.out] at hA4
                  obtain ⟨z', hid', hrs', hA4⟩ : ∃ z' : Ov, z'.id = (k : Int) + 1 ∧ z'.rs = [] ∧ All w.heap.size w (stF g1 (.slice (some ⟨zg1, 0, none⟩) 3 zc1) 3 (zz1 ++ (z', a, .slice none 0 0) :: zz2) ++ ((rl b z.rs :: l') ++ ([trO R S' sv fv, gl (.slice (some ⟨lg, 0, none⟩) kn lc) (hds S kn)] ++ (fo fs1 :: ZE g10 g16 ts2 us E)))) w9 := ⟨⟨(k : Int) + 1, z.cb, z.ws, []⟩, rfl, rfl, hA4⟩
                  have hOb : Own w9 86 11 b z.rs.length (rows encR z.rs) := hA4.P (rl b z.rs) (by simp)
                  have hOu : Own w9 86 11 uv U.length (rows encR U) := hA4.P (rl uv U) (by
                    simp only [ZE, toR, List.mem_append, List.mem_cons, List.mem_map]
                    exact .inr (.inr (.inr (.inr (.inr (.inr (.inr (.inl ⟨(U, uv), List.mem_of_getElem? HU.out, rfl⟩))))))))
                  have k12 : Blk w9 g16 (tus us) 61 := hA4.P (bk g16 (tus us) 61) (by simp [ZE])
                  have q12 := (k12.cell k).trans (show (tus us)[k]? = some uv from by unfold tus; rw [List.getElem?_map, HU.out]; rfl)
                  rw [HRs.out] at hOb
                  obtain ⟨ba, bc, rfl⟩ := own_shape hOb
                  obtain ⟨ua, uc, rfl⟩ := own_shape hOu
                  have hUl : U.length ≤ 1000000 := by
                    obtain ⟨x, hx⟩ : ∃ x, y1[k]? = some x := ⟨_, List.getElem?_eq_getElem (by omega)⟩
                    have h1 := HRu.out k x _ hx HU.out
                    have h2 := (HY1.out k x hx).2.2.2.2.2.1
                    simp only at h1
                    rw [h1]
                    omega
                  have HSm := Lib.hid (same_any hOb hOu hUl)
                  have hcp : ∀ wx : World, (∀ o, o ∈ E → o.P wx) → ∃ ca : Option Addr × Nat, wx.cell? ⟨g12, 0, none⟩ = some (.slice (some ⟨yg, 0, none⟩) 3 yc) ∧ wx.cell? ⟨yg, k * 4 + 3, none⟩ = some (.slice ca.1 0 ca.2) := fun wx h => by
                    rw [← HE.out] at h
                    obtain ⟨⟨y2, ya, yb⟩, hy2⟩ : ∃ x, ys[k]? = some x := ⟨_, List.getElem?_eq_getElem (by rw [HYl.out]; omega)⟩
                    have k1 : Blk wx g12 [.slice (some ⟨yg, 0, none⟩) 3 yc, .slice none 0 0, .int .i64 3] 34 := h (bk g12 [.slice (some ⟨yg, 0, none⟩) 3 yc, .slice none 0 0, .int .i64 3] 34) (by simp [stF])
                    have k2 : Own wx 60 4 (.slice (some ⟨yg, 0, none⟩) 3 yc) ys.length (rows encO ys) := h (sl 60 4 (.slice (some ⟨yg, 0, none⟩) 3 yc) ys.length (rows encO ys)) (by simp [stF])
                    have k3 : Own wx 86 11 yb y2.rs.length (rows encR y2.rs) := h (rl yb y2.rs) (by
                      have : rl yb y2.rs ∈ obF ys := List.mem_flatMap.2 ⟨_, List.mem_of_getElem? hy2, by simp⟩
                      simp only [stF, List.mem_append, List.mem_cons]
                      simp [this])
                    rw [HYl.out] at k2
                    have k4 := (k2.cellAt (k * 4 + 3) (by omega)).trans (rows_at (enc := encO) encO_len ys k _ hy2 3 (by decide))
                    rw [HYr.out k _ hy2] at k3
                    obtain ⟨ca, cc, rfl⟩ := own_shape k3
                    exact ⟨(ca, cc), k1.cell 0, k4⟩
                  have hk3i : (k : Int) < 3 := by omega
                  have HAx := Lib.hid hA4
                  clear hA4 hOb hOu k12 HT1
                  go_wp2_with fail
                  refine HSm.out.mono ?_
                  rintro e w11 ⟨rfl, m11, hw11⟩
                  have HA7 := Lib.hid (HAx.out.drewN m11)
                  rw [← hw11] at HA7
                  clear hw11 HAx q12
                  obtain ⟨⟨ca, cc⟩, cp0, cp1⟩ := hcp w11 (fun o ho => HA7.out.P o (by simp [ZE, ho]))
                  clear hcp
                  go_wp2_with fail
                  refine ⟨?_, by simp [intOf]; omega⟩
                  (repeat apply Exists.intro)
                  refine ⟨⟨k + 1, zz1 ++ (z', a, .slice none 0 0) :: zz2, rl (.slice ba U.length bc) z.rs :: l', by omega, by go_num, by rw [← HL2.out]; simp, fun j x u hx hu => ?_, HA7.out⟩, rfl⟩
                  rcases get_upd (x := (z, a, Value.slice ba U.length bc)) hx with ⟨hj, rfl⟩ | ⟨hj, hx⟩
                  · rw [HZl.out] at hj
                    subst hj
                    exact ⟨hid', by rw [if_pos (Nat.lt_succ_self _)]; exact hrs'⟩
                  · rw [HZl.out] at hj
                    obtain ⟨e1, e2⟩ := HY2.out j x u hx hu
                    refine ⟨e1, ?_⟩
                    rw [e2]
                    by_cases hjk : j < k
                    · rw [if_pos hjk, if_pos (by omega)]
                    · rw [if_neg hjk, if_neg (by omega)]
                · have HB := Lib.hid hA.below
                  clear hA hy2 hl2
                  go_wp2_with fail
                  go_ret
                  exact ⟨rfl, HB.out⟩
end Go.Proofs.YtfdofkokiaapoaaGreatDoor.W
