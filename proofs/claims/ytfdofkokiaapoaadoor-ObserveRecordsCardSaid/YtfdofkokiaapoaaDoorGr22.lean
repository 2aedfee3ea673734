/- Texts joined: ZoG DscO CovL. -/
import Derived.Test.YtfdofkokiaapoaaDoorGr21
import Derived.Test.YtfdofkokiaapoaaDoorGr18
import Derived.Test.YtfdofkokiaapoaaDoorGr13
section
/- awake returns true. -/
namespace Go.Proofs.YtfdofkokiaapoaaDoor.W.Z
open Go.RowKit
set_option linter.unusedVariables false

/-- a new State -/
theorem st_new {B : Nat} {w0 w : World} {l : List Ob} (h : All B w0 l w) (g : Nat) (hg : w.heap.size = g) : All B w0 (stL g (.slice none 0 0) 0 [] ++ l) (w.alloc (.cells #[.slice none 0 0, .slice none 0 0, .int .i64 0] 33)) :=
  ((h.nil 101 4).newBkA g hg [.slice none 0 0, .slice none 0 0, .int .i64 0] 33)
/-- a slice of sizes is one of some -/
theorem st_slice {B : Nat} {w0 w : World} {g : Nat} {zv : Value} {nx : Int} {z : Zv} {zs : List Zv} {l : List Ob} (h : All B w0 (stL g zv nx (z :: zs) ++ l) w) : ∃ zg zc, zv = .slice (some ⟨zg, 0, none⟩) (z :: zs).length zc := by
  have hr : Own _ _ _ _ _ _ := h.tail.head
  obtain ⟨zg, zc, h1, _⟩ := own_some hr (by simp)
  exact ⟨zg, zc, h1⟩
theorem map_one {zs' : List Zv} {z : Zr} (h : zs'.map (·.1) = [z]) : ∃ a b, zs' = [(z, a, b)] := by
  match zs', h with
  | [(u, a, b)], h =>
    simp at h
    subst h
    exact ⟨a, b, rfl⟩

set_option maxRecDepth 100000 in
set_option maxHeartbeats 1000000 in
theorem awake_any (w : World) : Calls Tryd.prog 6 #[] w fun e w' => e = .returned (.bool true) ∧ Below w.heap.size w w' := by
  have h0 := st_new (All.start w) w.heap.size rfl
  obtain ⟨g, hg⟩ : ∃ g, w.heap.size = g := ⟨_, rfl⟩
  have HC := Lib.hid (create_any h0 4 (by omega) (by omega) (by simp))
  rw [hg] at HC
  clear h0
  go_enter Tryd.func6, Tryd.ntmps6
  go_wp2_with fail
  refine HC.out.mono ?_
  rintro e w1 ⟨zv, rfl, hA1⟩
  obtain ⟨zg, zc, rfl⟩ := st_slice hA1
  have HO := Lib.hid (observe_new (z1 := []) (z2 := []) (z := ⟨1, 4, [], []⟩) hA1 (by simp) (by simp) 9 (by simp) rfl)
  clear hA1 HC
  go_wp2_with fail
  refine HO.out.mono ?_
  rintro e w2 ⟨a2, rfl, hA2⟩
  have hA3 := (hA2.newSlA w2.heap.size rfl 67 3 1 (rows encZ [(9, 3, 5)]) rfl (by omega)).perm List.perm_middle.symm
  have HM := Lib.hid (measure_any (lv := .slice (some ⟨w2.heap.size, 0, none⟩) 1 1) (L := [(9, 3, 5)]) hA3 rfl (by simp) (by simp [zl]) (by simp) (by simp [Zr.watch]))
  clear hA2 hA3 HO
  go_wp2_with fail
  refine HM.out.mono ?_
  rintro e w3 ⟨zs', rfl, hm, hA4⟩
  obtain ⟨a4, b4, rfl⟩ := map_one (z := ⟨1, 4, [(9, 3, 5)], [(9, 3, 5)]⟩) (hm.trans (by simp [Zr.meas, Zr.watch, nowOf, stepE, putEn]))
  have HD := Lib.hid (deliver_some (z1 := []) (z2 := []) (z := ⟨1, 4, [(9, 3, 5)], [(9, 3, 5)]⟩) hA4 (by simp) (by simp) (by simp) (by simp [nextOf, nextStep]))
  clear hm hA4 HM
  go_wp2_with fail
  refine HD.out.mono ?_
  rintro e w4 ⟨rfl, hA5⟩
  have ho : Own _ _ _ _ _ _ := hA5.P (zl b4 [(9, 3, 5)]) (by simp)
  obtain ⟨bg, bc, rfl, ⟨e0, e1, e2⟩, ef, elt⟩ := z_cells (k := 0) ho rfl
  have hB := Lib.hid hA5.below
  clear HD hA5 ho
  simp only [Nat.zero_mul] at e0 e1 e2
  have hbn : bg ≠ w4.heap.size := by omega
  go_wp2_with fail
  go_ret
  refine ⟨rfl, ?_⟩
  have h := hB.out
  subst hg
  exact h.alloc h.size _
end Go.Proofs.YtfdofkokiaapoaaDoor.W.Z
end
section
/- The law ObserveDisconnects. -/
namespace Go.Proofs.YtfdofkokiaapoaaDoor.W
open Go.RowKit
set_option linter.unusedVariables false
set_option linter.unusedSimpArgs false

theorem perm3 (U V X : List Ob) : (U ++ (V ++ X)).Perm (X ++ (V ++ U)) := by
  have h1 : (U ++ (V ++ X)).Perm ((V ++ X) ++ U) := List.perm_append_comm
  have h2 : ((V ++ X) ++ U).Perm ((X ++ V) ++ U) := List.perm_append_comm.append_right U
  rw [← List.append_assoc X V U]
  exact h1.trans h2
theorem permD1 (A1 A2 : List Ob) (F1 F2 T G : Ob) : (A2 ++ (F2 :: (A1 ++ (F1 :: [T, G])))).Perm (T :: G :: (A1 ++ (F1 :: (A2 ++ [F2])))) := by
  simpa using perm3 (A2 ++ [F2]) (A1 ++ [F1]) [T, G]
theorem permD2 (A1 Z : List Ob) (X T G F1 : Ob) : (X :: T :: G :: (A1 ++ (F1 :: Z))).Perm (A1 ++ (F1 :: T :: X :: (G :: Z))) := by
  have h1 : ([X, T, G] ++ ((A1 ++ [F1]) ++ Z)).Perm ((A1 ++ [F1]) ++ ([X, T, G] ++ Z)) := List.perm_append_comm_assoc _ _ _
  have h2 : ([X, T, G] ++ ((A1 ++ [F1]) ++ Z)).Perm (A1 ++ (F1 :: X :: T :: (G :: Z))) := by simpa using h1
  have h3 : (A1 ++ (F1 :: X :: T :: (G :: Z))).Perm (A1 ++ (F1 :: T :: X :: (G :: Z))) := List.Perm.append_left A1 (.cons F1 (.swap T X _))
  have h4 := h2.trans h3
  simpa using h4
theorem permD3 (A1 A2 : List Ob) (F1 F2 T G X : Ob) : (A1 ++ (F1 :: T :: X :: (G :: (A2 ++ [F2])))).Perm (A2 ++ (F2 :: T :: X :: (G :: (A1 ++ [F1])))) := by
  simpa using perm3 (A1 ++ [F1]) [T, X, G] (A2 ++ [F2])
theorem permD4 (A1 A2 : List Ob) (F1 F2 T G X : Ob) : (A2 ++ (F2 :: T :: X :: (G :: (A1 ++ [F1])))).Perm (X :: T :: G :: (A1 ++ (F1 :: (A2 ++ [F2])))) :=
  (permD3 A2 A1 F2 F1 T G X).trans (permD2 A1 (A2 ++ [F2]) X T G F1).symm
theorem perm_end (A : List Ob) (x y z t g f f2 : Ob) : (x :: ((A ++ [y]) ++ [z, t, g, f, f2])).Perm (f :: t :: (x :: ((A ++ [y]) ++ [z, g, f2]))) := by
  have h1 : (x :: ((A ++ [y]) ++ [z, t, g, f, f2])).Perm (x :: ((A ++ [y]) ++ [f, t, z, g, f2])) := .cons x (List.Perm.append_left _ (by
    exact ((List.Perm.swap t z _).trans ((List.Perm.cons t ((List.Perm.cons z (List.Perm.swap f g _)).trans (List.Perm.swap f z _))).trans (List.Perm.swap f t _)))))
  have h2 : (x :: ((A ++ [y]) ++ ([f, t] ++ [z, g, f2]))).Perm ([f, t] ++ (x :: ((A ++ [y]) ++ [z, g, f2]))) := List.perm_append_comm_assoc (x :: (A ++ [y])) [f, t] [z, g, f2]
  exact h1.trans h2
/-- watched, and its State and its watches laid into variables -/
theorem wd_state {B : Nat} {w0 w w' : World} {l : List Ob} (h : All B w0 l w) {zv : Value} {zs : List Oz} {fs : List Fl} {ts : List Tw} (hw : All w.heap.size w (sl 79 4 zv 3 (rows encO zs) :: (obF zs ++ (fo fs :: twO ts))) w') (hz : zs.length = 3) (cs : List Value) :
    All B w0 (stF w'.heap.size zv 3 zs ++ (fo fs :: (bk (w'.heap.size + 1) cs 57 :: (twO ts ++ l)))) ((w'.alloc (.cells #[zv, .slice none 0 0, .int .i64 3] 33)).alloc (.cells cs.toArray 57)) := by
  have h1 := ((h.after hw).newBkA w'.heap.size rfl [zv, .slice none 0 0, .int .i64 3] 33).newBkA (w'.heap.size + 1) (by simp) cs 57
  have h2 := h1.perm (l' := stF w'.heap.size zv 3 zs ++ (fo fs :: (bk (w'.heap.size + 1) cs 57 :: (twO ts ++ l)))) (by
    have := (List.perm_middle (a := bk (w'.heap.size + 1) cs 57) (l₁ := stF w'.heap.size zv 3 zs ++ [fo fs]) (l₂ := twO ts ++ l)).symm
    unfold stF at this ⊢
    rw [hz] at this ⊢
    simpa using this)
  exact h2

theorem wd_shape {w : World} {ts : List Tw} {v0 v1 v2 : Value} (h : tws ts = [v0, v1, v2]) (ho : ∀ t ∈ ts, (sl 44 7 t.2 t.1.length (rows encW t.1)).P w) :
    ∃ b0 d0 b1 d1 b2 d2, ∃ n0 n1 n2 : Nat, v0 = .slice b0 n0 d0 ∧ v1 = .slice b1 n1 d1 ∧ v2 = .slice b2 n2 d2 := by
  match ts, h with
  | [t0, t1, t2], h =>
    simp only [tws, List.map_cons, List.map_nil, List.cons.injEq, and_true] at h
    obtain ⟨rfl, rfl, rfl⟩ := h
    obtain ⟨b0, d0, e0⟩ := own_shape (show Own _ _ _ _ _ _ from ho t0 (by simp))
    obtain ⟨b1, d1, e1⟩ := own_shape (show Own _ _ _ _ _ _ from ho t1 (by simp))
    obtain ⟨b2, d2, e2⟩ := own_shape (show Own _ _ _ _ _ _ from ho t2 (by simp))
    exact ⟨b0, d0, b1, d1, b2, d2, _, _, _, e0, e1, e2⟩
/-- what is known of an observer, after i rounds -/
def DsK (l : List Int) (f : Nat → Pl4) (pn : Nat) (fs : List Fl) (dc : Bool) (n i j : Nat) (x : Oz) : Prop :=
  x.1.id = (j : Int) + 1 ∧ OfP l x.1 ∧ FIn fs x.1.ws ∧ x.1.ws.length ≤ 1000 ∧ (∀ y ∈ x.1.ws, y.flt.length ≤ 1000) ∧ x.1.rs.length ≤ 2 * i ∧ (dc = true → j = 1 → n / 2 < i → x.1.ws = [] ∧ x.1.rs = []) ∧ (j = 0 → x.1.ws.map Wt.bare = plW l f 0 pn)
def DcO (g1 zg1 zc1 : Nat) (zs1 : List Oz) (fs1 : List Fl) (g2 zg2 zc2 : Nat) (zs2 : List Oz) (fs2 : List Fl) (R : Nat) (S : Tr) (sv fv lv : Value) (l : List Int) : List Ob :=
  trO R S sv fv :: gl lv l :: (stF g1 (.slice (some ⟨zg1, 0, none⟩) 3 zc1) 3 zs1 ++ (fo fs1 :: (stF g2 (.slice (some ⟨zg2, 0, none⟩) 3 zc2) 3 zs2 ++ [fo fs2])))
def DcR (w : World) (f : Nat → Pl4) (pn n N : Nat) (S : Tr) (g1 zg1 zc1 : Nat) (fs1 : List Fl) (g2 zg2 zc2 : Nat) (fs2 : List Fl) (R : Nat) (sv fv lv : Value) (iv : Value) (wr : World) : Prop :=
  ∃ (i : Nat) (S' : Tr) (K' : Nat → List Nat) (d' : Nat → Nat) (zs1 zs2 : List Oz), i ≤ n ∧ iv = .int .i64 (i : Int) ∧ zs1.length = 3 ∧ zs2.length = 3 ∧ (∀ (j : Nat) (x : Oz), zs1[j]? = some x → DsK (hds S N) f pn fs1 true n i j x) ∧ (∀ (j : Nat) (x : Oz), zs2[j]? = some x → DsK (hds S N) f pn fs2 false n i j x) ∧
    (∀ x y : Oz, zs1[0]? = some x → zs2[0]? = some y → x.1.rs = y.1.rs) ∧ Dc S' K' d' N ∧ S'.b = S.b ∧ S'.s = S.s ∧ All w.heap.size w (DcO g1 zg1 zc1 zs1 fs1 g2 zg2 zc2 zs2 fs2 R S' sv fv lv (hds S N)) wr
theorem dsk_start {l : List Int} {f : Nat → Pl4} {pn : Nat} {fs : List Fl} {n j : Nat} {x : Oz} (dc : Bool) (h : ObK l f fs pn j x) (hp : pn ≤ 20) : DsK l f pn fs dc n 0 j x := by
  obtain ⟨h1, h2, h3, h4, h5⟩ := h
  obtain ⟨a1, a2, a3, a4, a5⟩ := obk_of (show ObK l f fs pn j x from ⟨h1, h2, h3, h4, h5⟩) (by omega)
  have hl := plW_len l f j pn
  rw [← h4, List.length_map] at hl
  refine ⟨h1, a1, h5, by omega, fun y hy => ?_, by rw [h3]; simp, fun _ _ hlt => absurd hlt (Nat.not_lt_zero _), fun hj => hj ▸ h4⟩
  have := plW_tg l f j pn y.bare (by rw [← h4]; exact List.mem_map_of_mem hy)
  obtain ⟨m, _, h⟩ := this
  have : y.flt.length ≤ 3 := h
  omega
theorem dsk_ok {l : List Int} {f : Nat → Pl4} {pn : Nat} {fs : List Fl} {dc : Bool} {n i : Nat} {zs : List Oz} (h : ∀ (j : Nat) (x : Oz), zs[j]? = some x → DsK l f pn fs dc n i j x) (hi : i ≤ 60) : ∀ z ∈ zs, OkO fs z.1 := fun z hz => by
  obtain ⟨j, hj⟩ := List.mem_iff_getElem?.1 hz
  obtain ⟨h1, h2, h3, h4, h5, h6, h7, h8⟩ := h j z hj
  refine ⟨h3, by omega, by omega, fun x hx => ?_⟩
  have := h5 x hx
  omega
theorem dsk_tg {S S' : Tr} {N : Nat} {f : Nat → Pl4} {pn : Nat} {fs : List Fl} {dc : Bool} {n i : Nat} {zs : List Oz} (h : ∀ (j : Nat) (x : Oz), zs[j]? = some x → DsK (hds S N) f pn fs dc n i j x) (hN : 0 < N) (hb : S'.b = S.b) (hs : S'.s = S.s) : ∀ z ∈ zs, TgO S' N z.1 := fun z hz => by
  obtain ⟨j, hj⟩ := List.mem_iff_getElem?.1 hz
  exact (h j z hj).2.1.tg hN hb hs
/-- a round, but for the disconnection -/
theorem dsk_up {l : List Int} {f : Nat → Pl4} {pn : Nat} {fs : List Fl} {dc : Bool} {n i : Nat} {zs zs' : List Oz} {c : Wb → Rc → Bool} {rs : List Rc} (h : ∀ (j : Nat) (x : Oz), zs[j]? = some x → DsK l f pn fs dc n i j x) (he : zs'.map pz = (zs.map pz).map (upL c rs)) (hr : rs.length ≤ 2) :
    ∀ (j : Nat) (x : Oz), zs'[j]? = some x → (dc = true → j = 1 → n / 2 ≠ i) → DsK l f pn fs dc n (i + 1) j x := fun j x hx hne => by
  obtain ⟨y, hy, e⟩ := up_at he hx
  obtain ⟨h1, h2, h3, h4, h5, h6, h7, h8⟩ := h j y hy
  have hl := toldL_len c (y.1.ws.map Wt.bare) rs
  unfold DsK OfP
  rw [e]
  refine ⟨h1, h2, h3, h4, h5, by rw [List.length_append]; omega, fun hd hj hlt => ?_, h8⟩
  have := hne hd hj
  obtain ⟨e1, e2⟩ := h7 hd hj (by omega)
  refine ⟨e1, ?_⟩
  show y.1.rs ++ toldL c (y.1.ws.map Wt.bare) rs = []
  rw [e1, e2, List.map_nil, told_none]
  rfl
theorem rs_up {l : List Int} {f : Nat → Pl4} {pn : Nat} {fs1 fs2 : List Fl} {n i : Nat} {z1 z1' z2 z2' : List Oz} {c : Wb → Rc → Bool} {rs : List Rc} (h1 : ∀ (j : Nat) (x : Oz), z1[j]? = some x → DsK l f pn fs1 true n i j x) (h2 : ∀ (j : Nat) (x : Oz), z2[j]? = some x → DsK l f pn fs2 false n i j x)
    (hr : ∀ x y : Oz, z1[0]? = some x → z2[0]? = some y → x.1.rs = y.1.rs) (e1 : z1'.map pz = (z1.map pz).map (upL c rs)) (e2 : z2'.map pz = (z2.map pz).map (upL c rs)) : ∀ x y : Oz, z1'[0]? = some x → z2'[0]? = some y → x.1.rs = y.1.rs := fun x y hx hy => by
  obtain ⟨u, hu, eu⟩ := up_at e1 hx
  obtain ⟨v, hv, ev⟩ := up_at e2 hy
  have a1 := (h1 0 u hu).2.2.2.2.2.2.2 rfl
  have a2 := (h2 0 v hv).2.2.2.2.2.2.2 rfl
  rw [eu, ev]
  show u.1.rs ++ toldL c (u.1.ws.map Wt.bare) rs = v.1.rs ++ toldL c (v.1.ws.map Wt.bare) rs
  rw [a1, a2, hr u v hu hv]

set_option maxRecDepth 100000 in
set_option maxHeartbeats 16000000 in
theorem dsc_law {w : World} (hT : Laid w) (ka : Option Addr) (kn kc : Nat) (fk : Nat → Int) (hk : InB w ka kn fk) (hk1 : ∀ j, 0 ≤ fk j ∧ fk j ≤ 255) (pa : Option Addr) (pn pc : Nat) (fp : Nat → Pl4) (hp : InP w pa pn fp) (hpo : ∀ j, (fp j).ok) (A : Option Addr) (n c : Nat) (f : Nat → Opn) (h : InO w A n f) (ho : ∀ j, (f j).ok) (hkn : kn ≤ 9223372036854775807) (hpn : pn ≤ 9223372036854775807) (hn : n ≤ 9223372036854775807) :
    Calls Tryd.prog 5 #[.slice ka kn kc, .slice pa pn pc, .slice A n c] w fun e w' => e = .returned (.bool true) ∧ Below w.heap.size w w' := by
  have HT := Lib.hid hT
  have HK := Lib.hid hk
  have HK1 := Lib.hid hk1
  have HP := Lib.hid hp
  have HPo := Lib.hid hpo
  have H := Lib.hid h
  have HO := Lib.hid ho
  clear hT hk hk1 hp hpo h ho
  go_enter Tryd.func5, Tryd.ntmps5
  go_wp2_with fail
  refine (Z.awake_any w).mono ?_
  rintro e w1 ⟨rfl, hb1⟩
  have h1 := H.out.keep hb1
  go_wp2_with fail
  refine (few_any ka kn kc A n c f h1 hkn hn).mono ?_
  rintro e w2 ⟨bf, rfl, hfew, hw⟩
  rw [hw]
  clear hw h1
  cases bf
  · go_wp2_with fail
    refine (Z.awake_any w1).mono ?_
    rintro e w3 ⟨rfl, hb3⟩
    go_wp2_with fail
    go_ret
    exact ⟨rfl, bthen hb1 hb3⟩
  · obtain ⟨hk20, hn60, hs20⟩ := hfew rfl
    clear hfew
    by_cases hp20 : 20 < pn
    · have d1 : decide ((20 : Int) < (pn : Int)) = true := by simp; omega
      go_wp2_with fail
      refine (Z.awake_any w1).mono ?_
      rintro e w3 ⟨rfl, hb3⟩
      go_wp2_with fail
      go_ret
      exact ⟨rfl, bthen hb1 hb3⟩
    · have d1 : decide ((20 : Int) < (pn : Int)) = false := by simp; omega
      have HDoc := Lib.hid (document_any (HT.out.below hb1) ka kn kc ((List.range kn).map fk) (fun i hi => by
        obtain ⟨b, off, e, hlt, hc⟩ := HK.out (by omega)
        refine ⟨b, off, e, ?_, ?_⟩
        · rw [List.getElem?_map, List.getElem?_range hi]
          exact cell_keep hb1 (hc i hi)
        · rw [List.getElem?_map, List.getElem?_range hi]
          exact HK1.out i) (by omega))
      have HA0 := Lib.hid ((All.start w).still hb1)
      clear hb1
      go_wp2_with fail
      refine HDoc.out.mono ?_
      rintro e w3 ⟨R, S, K, d, sv, fv, lv, rfl, hD, hA⟩
      have hlo : Own w3 3 1 lv (hds S kn).length _ := hA.tail.head
      rw [hds_len] at hlo
      obtain ⟨la, lc, rfl⟩ := own_shape hlo
      clear hlo
      have hA3 : All w.heap.size w [trO R S sv fv, gl (.slice la kn lc) (hds S kn)] w3 := HA0.out.after hA
      have HD := Lib.hid hD
      have HA3 := Lib.hid hA3
      have hl3 : Own w3 3 1 (.slice la (hds S kn).length lc) (hds S kn).length (hcells (hds S kn)) := by
        have := hA3.tail.head
        rw [show Value.slice la kn lc = .slice la (hds S kn).length lc from by rw [hds_len]] at this
        exact this
      have HW1 := Lib.hid (watched_any (l := hds S kn) pa pn pc fp (HP.out.keep hA3.below) HPo.out hl3 (by omega) (by rw [hds_len]; omega))
      simp only [hds_len] at HW1
      clear hA hA3 HDoc HA0 hD hl3
      go_wp2_with fail
      refine HW1.out.mono ?_
      rintro e w4 ⟨zg1, zc1, zs1, ts1, fs1, v0, v1, v2, rfl, hz1, ht1, ho1, hw1, hA4⟩
      have HZ1 := Lib.hid ho1
      have HZl1 := Lib.hid hz1
      have HV := Lib.hid ht1
      have hv : ∃ b0 d0 b1 d1 b2 d2 : _, ∃ n0 n1 n2 : Nat, v0 = .slice b0 n0 d0 ∧ v1 = .slice b1 n1 d1 ∧ v2 = .slice b2 n2 d2 := wd_shape ht1 (fun t ht => hA4.P _ (List.mem_cons_of_mem _ (List.mem_append_right _ (List.mem_cons_of_mem _ (List.mem_map.2 ⟨t, ht, rfl⟩)))))
      obtain ⟨b0, d0, b1, d1, b2, d2, n0, n1, n2, rfl, rfl, rfl⟩ := hv
      have hA5 := wd_state HA3.out hA4 hz1 [.slice b0 n0 d0, .slice b1 n1 d1, .slice b2 n2 d2]
      have HA5 := Lib.hid (hA5.sub (l' := stF w4.heap.size (.slice (some ⟨zg1, 0, none⟩) 3 zc1) 3 zs1 ++ (fo fs1 :: [trO R S sv fv, gl (.slice la kn lc) (hds S kn)])) (List.Sublist.append_left (List.Sublist.cons_cons _ (List.Sublist.cons _ (List.sublist_append_right _ _))) _))
      clear hA4 hA5 ho1 hz1 ht1 HW1
      go_upto_region 5 with fail
      generalize hg1 : w4.heap.size = g1 at *
      have HA6 := Lib.hid HA5.out
      clear HA5
      generalize (w4.alloc (.cells #[.slice (some ⟨zg1, 0, none⟩) 3 zc1, .slice none 0 0, .int .i64 3] 33)).alloc (.cells #[.slice b0 n0 d0, .slice b1 n1 d1, .slice b2 n2 d2] 57) = w5 at *
      have hl3 : Own w5 3 1 (.slice la (hds S kn).length lc) (hds S kn).length (hcells (hds S kn)) := by
        have := HA6.out.P (gl (.slice la kn lc) (hds S kn)) (by simp)
        rw [show Value.slice la kn lc = .slice la (hds S kn).length lc from by rw [hds_len]] at this
        exact this
      have HW2 := Lib.hid (watched_any (l := hds S kn) pa pn pc fp (HP.out.keep HA6.out.below) HPo.out hl3 (by omega) (by rw [hds_len]; omega))
      simp only [hds_len] at HW2
      clear hl3
      go_wp2_with fail
      refine HW2.out.mono ?_
      rintro e w6 ⟨zg2, zc2, zs2, ts2, fs2, v0, v1, v2, rfl, hz2, ht2, ho2, hw2, hA7⟩
      have HZ2 := Lib.hid ho2
      have HZl2 := Lib.hid hz2
      obtain ⟨b0, d0, b1, d1, b2, d2, n0, n1, n2, rfl, rfl, rfl⟩ := wd_shape ht2 (fun t ht => hA7.P _ (List.mem_cons_of_mem _ (List.mem_append_right _ (List.mem_cons_of_mem _ (List.mem_map.2 ⟨t, ht, rfl⟩)))))
      have hA8 := wd_state HA6.out hA7 hz2 [.slice b0 n0 d0, .slice b1 n1 d1, .slice b2 n2 d2]
      have hA9 := (hA8.sub (l' := stF w6.heap.size (.slice (some ⟨zg2, 0, none⟩) 3 zc2) 3 zs2 ++ (fo fs2 :: (stF g1 (.slice (some ⟨zg1, 0, none⟩) 3 zc1) 3 zs1 ++ (fo fs1 :: [trO R S sv fv, gl (.slice la kn lc) (hds S kn)])))) (List.Sublist.append_left (List.Sublist.cons_cons _ (List.Sublist.cons _ (List.sublist_append_right _ _))) _)).perm (permD1 _ _ _ _ _ _)
      have HA9 := Lib.hid hA9
      clear hA7 hA8 hA9 ho2 hz2 ht2 hw2 HW2 hw1 HA6 HA3
      go_upto_region 6 with fail
      generalize hg2 : w6.heap.size = g2 at *
      have HA10 : Hid (All w.heap.size w (DcO g1 zg1 zc1 zs1 fs1 g2 zg2 zc2 zs2 fs2 R S sv fv (.slice la kn lc) (hds S kn)) ((w6.alloc (.cells #[.slice (some ⟨zg2, 0, none⟩) 3 zc2, .slice none 0 0, .int .i64 3] 33)).alloc (.cells #[.slice b0 n0 d0, .slice b1 n1 d1, .slice b2 n2 d2] 57))) := HA9
      clear HA9
      generalize (w6.alloc (.cells #[.slice (some ⟨zg2, 0, none⟩) 3 zc2, .slice none 0 0, .int .i64 3] 33)).alloc (.cells #[.slice b0 n0 d0, .slice b1 n1 d1, .slice b2 n2 d2] 57) = w7 at *
      go_wp2_with fail
      go_loopw [58] (fun iv wr => DcR w fp pn n kn S g1 zg1 zc1 fs1 g2 zg2 zc2 fs2 R sv fv (.slice la kn lc) iv wr) (fun iv _ => n - (intOf iv).toNat)
      case atStart =>
        refine ⟨0, S, K, d, zs1, zs2, Nat.zero_le _, rfl, HZl1.out, HZl2.out, fun j x hx => dsk_start true (HZ1.out j x hx) (by omega), fun j x hx => dsk_start false (HZ2.out j x hx) (by omega), fun x y hx hy => ?_, HD.out, rfl, rfl, HA10.out⟩
        rw [(HZ1.out 0 x hx).2.2.1, (HZ2.out 0 y hy).2.2.1]
      case round =>
        clear HA10 HZ1 HZ2 HZl1 HZl2 HD
        obtain ⟨i, S', K', d', y1, y2, hi, rfl, hl1, hl2, hy1, hy2, hrs, hD', hb', hs', hA⟩ := hrel
        by_cases hin : i < n
        · have hbel := hA.below
          obtain ⟨ob, oo, rfl, hol, hc⟩ := H.out (by omega)
          obtain ⟨q0, q1, q2, q3, q4⟩ := hc i hin
          have hok := HO.out i
          have hsz := hs20 i hin
          generalize f i = opn at q0 q1 q2 q3 q4 hok hsz
          obtain ⟨k0, a0, b0, c0, os⟩ := opn
          unfold Opn.ok at hok
          (try simp only at q0 q1 q2 q3 q4 hok hsz)
          obtain ⟨k0, rfl⟩ := Int.eq_ofNat_of_zero_le hok.1.1
          obtain ⟨a0, rfl⟩ := Int.eq_ofNat_of_zero_le hok.2.1.1
          obtain ⟨b0, rfl⟩ := Int.eq_ofNat_of_zero_le hok.2.2.1.1
          obtain ⟨c0, rfl⟩ := Int.eq_ofNat_of_zero_le hok.2.2.2.1
          obtain ⟨sl0, rfl⟩ : ∃ sl0 : List UInt8, os = ⟨sl0.toArray⟩ := ⟨os.data.toList, rfl⟩
          have hsl0 : sl0.length ≤ 20 := by
            have : (⟨sl0.toArray⟩ : ByteArray).size = sl0.length := by show sl0.toArray.size = _; simp
            omega
          have q0 := cell_keep hbel q0
          have q1 := cell_keep hbel q1
          have q2 := cell_keep hbel q2
          have q3 := cell_keep hbel q3
          have q4 := cell_keep hbel q4
          have HMu := Lib.hid (mutate_tg (N := kn) hD' (show All w.heap.size w (trO R S' sv fv :: gl (.slice la kn lc) (hds S' kn) :: (stF g1 (.slice (some ⟨zg1, 0, none⟩) 3 zc1) 3 y1 ++ (fo fs1 :: (stF g2 (.slice (some ⟨zg2, 0, none⟩) 3 zc2) 3 y2 ++ [fo fs2])))) wr from by rw [hds_same hb' hs']; exact hA) (HT.out.below hbel) k0 a0 b0 c0 (by omega) (by omega) (by omega) (by omega) sl0 (by omega) (by omega))
          simp only [strV] at HMu
          have HL1 := Lib.hid hl1
          have HL2 := Lib.hid hl2
          have HY1 := Lib.hid hy1
          have HY2 := Lib.hid hy2
          have HRs := Lib.hid hrs
          clear hA hc hok hsz hbel hl1 hl2 hy1 hy2 hrs hD'
          go_wp2_with fail
          refine HMu.out.mono ?_
          rintro e w9 ⟨S2, K2, d2, v, rs, rfl, hD2, hb2, hs2, hgd, hrs2, hpos, hA9⟩
          rw [hds_same hb' hs'] at hA9
          have hb3 : S2.b = S.b := hb2.trans hb'
          have hs3 : S2.s = S.s := hs2.trans hs'
          have hA10 : All w.heap.size w (NgO g1 zg1 y1.length zc1 3 y1 fs1 R S2 sv fv v rs (gl (.slice la kn lc) (hds S kn) :: (stF g2 (.slice (some ⟨zg2, 0, none⟩) 3 zc2) 3 y2 ++ [fo fs2]))) w9 := by
            rw [HL1.out]
            exact hA9.perm (permD2 _ _ _ _ _ _)
          have HN1 := Lib.hid (note_any hD2 hA10 hgd (dsk_ok HY1.out (by omega)) (fun hne => dsk_tg HY1.out (hpos hne) hb3 hs3) (by omega) (by rw [HL1.out]; omega))
          rw [HL1.out] at HN1
          have HD2 := Lib.hid hD2
          have HB3 := Lib.hid hb3
          have HS3 := Lib.hid hs3
          have HGd := Lib.hid hgd
          have HPos := Lib.hid hpos
          clear hA9 hA10 HMu hD2 hb2 hs2 hb' hs' hb3 hs3 hgd hpos q0 q1 q2 q3 q4
          go_wp2_with fail
          refine HN1.out.mono ?_
          rintro e w10 ⟨y1', rfl, he1, hA11⟩
          have hA12 : All w.heap.size w (NgO g2 zg2 y2.length zc2 3 y2 fs2 R S2 sv fv v rs (gl (.slice la kn lc) (hds S kn) :: (stF g1 (.slice (some ⟨zg1, 0, none⟩) 3 zc1) 3 y1' ++ [fo fs1]))) w10 := by
            rw [HL2.out]
            exact hA11.perm (permD3 _ _ _ _ _ _ _)
          have HN2 := Lib.hid (note_any HD2.out hA12 HGd.out (dsk_ok HY2.out (by omega)) (fun hne => dsk_tg HY2.out (HPos.out hne) HB3.out HS3.out) (by omega) (by rw [HL2.out]; omega))
          rw [HL2.out] at HN2
          have HE1 := Lib.hid he1
          clear hA11 hA12 HN1 he1
          go_wp2_with fail
          refine HN2.out.mono ?_
          rintro e w11 ⟨y2', rfl, he2, hA13⟩
          have hA14 : All w.heap.size w (DcO g1 zg1 zc1 y1' fs1 g2 zg2 zc2 y2' fs2 R S2 sv fv (.slice la kn lc) (hds S kn)) w11 := (hA13.perm (permD4 _ _ _ _ _ _ _)).tail
          have HA14 := Lib.hid hA14
          have HE2 := Lib.hid he2
          have hl1' : y1'.length = 3 := by rw [up_len HE1.out, HL1.out]
          have hl2' : y2'.length = 3 := by rw [up_len he2, HL2.out]
          have HL1' := Lib.hid hl1'
          have HL2' := Lib.hid hl2'
          have HRs' := Lib.hid (rs_up HY1.out HY2.out HRs.out HE1.out he2)
          clear hA13 hA14 HN2 he2 hl1' hl2'
          by_cases him : i = n / 2
          · have hq1 : ((i : Int) == (n : Int) / 2) = true := by simp; omega
            have HIm := Lib.hid him
            clear him
            obtain ⟨⟨z, a, b⟩, hz⟩ : ∃ x, y1'[1]? = some x := ⟨_, List.getElem?_eq_getElem (by rw [HL1'.out]; omega)⟩
            obtain ⟨zz1, zz2, e12, hzl⟩ := split_at hz
            have hid : ∀ (j : Nat) (x : Oz), y1'[j]? = some x → x.1.id = (j : Int) + 1 := fun j x hx => by
              obtain ⟨u, hu, e⟩ := up_at HE1.out hx
              rw [e]
              exact (HY1.out j u hu).1
            have hzid : z.id = 2 := hid 1 _ hz
            have HId := Lib.hid hid
            subst e12
            have hA15 : All w.heap.size w (stF g1 (.slice (some ⟨zg1, 0, none⟩) (zz1 ++ (z, a, b) :: zz2).length zc1) 3 (zz1 ++ (z, a, b) :: zz2) ++ (trO R S2 sv fv :: gl (.slice la kn lc) (hds S kn) :: (fo fs1 :: (stF g2 (.slice (some ⟨zg2, 0, none⟩) 3 zc2) 3 y2' ++ [fo fs2])))) w11 := by
              rw [HL1'.out]
              exact (show All w.heap.size w ([trO R S2 sv fv, gl (.slice la kn lc) (hds S kn)] ++ (stF g1 (.slice (some ⟨zg1, 0, none⟩) 3 zc1) 3 (zz1 ++ (z, a, b) :: zz2) ++ (fo fs1 :: (stF g2 (.slice (some ⟨zg2, 0, none⟩) 3 zc2) 3 y2' ++ [fo fs2])))) w11 from HA14.out).perm (List.perm_append_comm_assoc _ _ _)
            have hn1 : ∀ y ∈ zz1, y.1.id ≠ z.id := fun y hy => by
              obtain ⟨j, hj⟩ := List.mem_iff_getElem?.1 hy
              have hjl : j < zz1.length := (List.getElem?_eq_some_iff.1 hj).1
              have := hid j y (by rw [List.getElem?_append_left hjl]; exact hj)
              rw [this, hzid]
              omega
            have HDi := Lib.hid (disconnect_at (z := z) hA15 hn1 (by rw [HL1'.out]; omega))
            rw [hzid] at HDi
            have HZl := Lib.hid hzl
            clear hz hid hA15 hn1 hzl
            go_wp2_with fail
            refine HDi.out.mono ?_
            rintro e w12 ⟨rfl, hA16⟩
            have HN9 := Lib.hid (disconnect_no hA16 9 (fun y hy => by
              obtain ⟨j, hj⟩ := List.mem_iff_getElem?.1 hy
              have hjl := (List.getElem?_eq_some_iff.1 hj).1
              have hjl3 : j < 3 := by
                have := HL1'.out
                simp at this hjl
                omega
              rcases get_upd (x := (z, a, b)) hj with ⟨rfl, rfl⟩ | ⟨_, hj⟩
              · exact (by decide : (2 : Int) ≠ 9)
              · rw [HId.out j y hj]
                omega) (by have := HL1'.out; simp at this ⊢; omega))
            have HA16 := Lib.hid hA16
            clear hA16 HDi
            go_wp2_with fail
            refine HN9.out.mono ?_
            rintro e w13 ⟨rfl, hw13⟩
            subst hw13
            go_wp2_with fail
            have h1 := HA16.out
            rw [HL1'.out] at h1
            have h2 := h1.perm (List.perm_append_comm_assoc _ [_, _] _)
            refine ⟨⟨i + 1, S2, K2, d2, zz1 ++ (⟨2, z.cb, [], []⟩, .slice none 0 0, .slice none 0 0) :: zz2, y2', by omega, by go_num, by have := HL1'.out; simp at this ⊢; omega, HL2'.out, fun j x hx => ?_, fun j x hx => dsk_up HY2.out HE2.out hrs2 j x hx (fun h => by cases h), fun x y hx hy => ?_, HD2.out, HB3.out, HS3.out, h2⟩, by simp [intOf]; omega⟩
            · rcases get_upd (x := (z, a, b)) hx with ⟨rfl, rfl⟩ | ⟨hj, hx⟩
              · rw [HZl.out]
                refine ⟨rfl, (fun y hy => by cases hy), (fun y hy => by cases hy), by simp, (fun y hy => by cases hy), by simp, fun _ _ _ => ⟨rfl, rfl⟩, fun h => absurd h (by omega)⟩
              · exact dsk_up HY1.out HE1.out hrs2 j x hx (fun _ h1 => absurd h1 (by rw [← HZl.out]; exact hj))
            · rcases get_upd (x := (z, a, b)) hx with ⟨h0, _⟩ | ⟨hj, hx⟩
              · rw [HZl.out] at h0
                cases h0
              · exact HRs'.out x y hx hy
          · have hq1 : ((i : Int) == (n : Int) / 2) = false := by simp; omega
            have HIm := Lib.hid him
            clear him
            go_wp2_with fail
            exact ⟨⟨i + 1, S2, K2, d2, y1', y2', by omega, by go_num, HL1'.out, HL2'.out, fun j x hx => dsk_up HY1.out HE1.out hrs2 j x hx (fun _ _ h => HIm.out h.symm), fun j x hx => dsk_up HY2.out HE2.out hrs2 j x hx (fun h => by cases h), HRs'.out, HD2.out, HB3.out, HS3.out, HA14.out⟩, by simp [intOf]; omega⟩
        · obtain rfl : i = n := by omega
          obtain ⟨⟨za, aa, ba⟩, hza⟩ : ∃ x, y1[0]? = some x := ⟨_, List.getElem?_eq_getElem (by omega)⟩
          obtain ⟨⟨zb, ab, bb⟩, hzb⟩ : ∃ x, y2[0]? = some x := ⟨_, List.getElem?_eq_getElem (by omega)⟩
          obtain ⟨⟨zc, ac, bc⟩, hzc⟩ : ∃ x, y1[1]? = some x := ⟨_, List.getElem?_eq_getElem (by omega)⟩
          have hra := hrs _ _ hza hzb
          have hia := (hy1 0 _ hza).1
          have hib := (hy2 0 _ hzb).1
          have hic := (hy1 1 _ hzc).1
          have hla := (hy1 0 _ hza).2.2.2.2.2.1
          have hrc : zc.rs = [] := by
            by_cases h0 : i = 0
            · have := (hy1 1 _ hzc).2.2.2.2.2.1
              simp only at this
              exact List.eq_nil_of_length_eq_zero (by omega)
            · exact ((hy1 1 _ hzc).2.2.2.2.2.2.1 rfl rfl (by omega)).2
          simp only at hra hia hib hic hla
          have HY1 := Lib.hid hy1
          match y1, hl1, hza, hzc with
          | [x0, x1, x2], _, hza, hzc =>
          match y2, hl2, hzb with
          | [u0, u1, u2], _, hzb =>
          simp only [List.getElem?_cons_zero, List.getElem?_cons_succ, Option.some.injEq] at hza hzb hzc
          subst hza hzb hzc
          have hA2 : All w.heap.size w (stF g1 (.slice (some ⟨zg1, 0, none⟩) ([] ++ (za, aa, ba) :: [(zc, ac, bc), x2]).length zc1) 3 ([] ++ (za, aa, ba) :: [(zc, ac, bc), x2]) ++ (trO R S' sv fv :: gl (.slice la kn lc) (hds S kn) :: (fo fs1 :: (stF g2 (.slice (some ⟨zg2, 0, none⟩) 3 zc2) 3 [(zb, ab, bb), u1, u2] ++ [fo fs2])))) wr :=
            (show All w.heap.size w ([trO R S' sv fv, gl (.slice la kn lc) (hds S kn)] ++ (stF g1 (.slice (some ⟨zg1, 0, none⟩) 3 zc1) 3 [(za, aa, ba), (zc, ac, bc), x2] ++ (fo fs1 :: (stF g2 (.slice (some ⟨zg2, 0, none⟩) 3 zc2) 3 [(zb, ab, bb), u1, u2] ++ [fo fs2])))) wr from hA).perm (List.perm_append_comm_assoc _ _ _)
          have HT1 := Lib.hid (take_obF (z := za) hA2 (by simp) (by simp))
          rw [hia] at HT1
          have HHb := Lib.hid hb'
          have HHs := Lib.hid hs'
          have HD2 := Lib.hid hD'
          clear hA hA2 hy1 hy2 hrs hb' hs' hD' hl1 hl2
          go_wp2_with fail
          refine HT1.out.mono ?_
          rintro e w9 ⟨rfl, hA3⟩
          obtain ⟨za', hia', hA3⟩ : ∃ za' : Ov, za'.id = 1 ∧ All w.heap.size w ((stF g1 (.slice (some ⟨zg1, 0, none⟩) 3 zc1) 3 [(za', aa, .slice none 0 0), (zc, ac, bc), x2] ++ [rl ba za.rs, trO R S' sv fv, gl (.slice la kn lc) (hds S kn), fo fs1]) ++ (stF g2 (.slice (some ⟨zg2, 0, none⟩) 3 zc2) 3 [(zb, ab, bb), u1, u2] ++ [fo fs2])) w9 := ⟨_, rfl, by simp only [List.append_assoc, List.cons_append, List.nil_append] at hA3 ⊢; exact hA3⟩
          have hA4 := hA3.perm (List.perm_append_comm_assoc _ _ _)
          have hA4 : All w.heap.size w (stF g2 (.slice (some ⟨zg2, 0, none⟩) ([] ++ (zb, ab, bb) :: [u1, u2]).length zc2) 3 ([] ++ (zb, ab, bb) :: [u1, u2]) ++ ((stF g1 (.slice (some ⟨zg1, 0, none⟩) 3 zc1) 3 [(za', aa, .slice none 0 0), (zc, ac, bc), x2] ++ [rl ba za.rs, trO R S' sv fv, gl (.slice la kn lc) (hds S kn), fo fs1]) ++ [fo fs2])) w9 := hA4
          have HT2 := Lib.hid (take_obF (z := zb) hA4 (by simp) (by simp))
          rw [hib] at HT2
          clear hA3 hA4 HT1
          go_wp2_with fail
          refine HT2.out.mono ?_
          rintro e w10 ⟨rfl, hA5⟩
          obtain ⟨zb', hA5⟩ : ∃ zb' : Ov, All w.heap.size w ((stF g2 (.slice (some ⟨zg2, 0, none⟩) 3 zc2) 3 [(zb', ab, .slice none 0 0), u1, u2] ++ [rl bb zb.rs]) ++ (stF g1 (.slice (some ⟨zg1, 0, none⟩) 3 zc1) 3 [(za', aa, .slice none 0 0), (zc, ac, bc), x2] ++ [rl ba za.rs, trO R S' sv fv, gl (.slice la kn lc) (hds S kn), fo fs1, fo fs2])) w10 := ⟨_, by simp only [List.append_assoc, List.cons_append, List.nil_append] at hA5 ⊢; exact hA5⟩
          have hA6 := hA5.perm (List.perm_append_comm_assoc _ _ _)
          have hA6 : All w.heap.size w (stF g1 (.slice (some ⟨zg1, 0, none⟩) ([(za', aa, Value.slice none 0 0)] ++ (zc, ac, bc) :: [x2]).length zc1) 3 ([(za', aa, Value.slice none 0 0)] ++ (zc, ac, bc) :: [x2]) ++ ((stF g2 (.slice (some ⟨zg2, 0, none⟩) 3 zc2) 3 [(zb', ab, .slice none 0 0), u1, u2] ++ [rl bb zb.rs]) ++ [rl ba za.rs, trO R S' sv fv, gl (.slice la kn lc) (hds S kn), fo fs1, fo fs2])) w10 := hA6
          have HT3 := Lib.hid (take_obF (z := zc) hA6 (by intro y hy; simp at hy; subst hy; rw [hic, hia']; decide) (by simp))
          have ho3 : Own w10 90 11 bc zc.rs.length (rows encR zc.rs) := hA6.P (rl bc zc.rs) (by simp [stF, obF])
          rw [hrc] at ho3
          obtain ⟨ca, cc, rfl⟩ := own_shape ho3
          rw [hic] at HT3
          clear hA5 hA6 HT2 ho3
          go_wp2_with fail
          refine HT3.out.mono ?_
          rintro e w11 ⟨rfl, hA7⟩
          obtain ⟨zc', hic', hws', hA7⟩ : ∃ zc' : Ov, zc'.id = 2 ∧ zc'.ws = zc.ws ∧ All w.heap.size w (stF g1 (.slice (some ⟨zg1, 0, none⟩) 3 zc1) 3 [(za', aa, .slice none 0 0), (zc', ac, .slice none 0 0), x2] ++ (rl (.slice ca ([] : List Rc).length cc) zc.rs :: ((stF g2 (.slice (some ⟨zg2, 0, none⟩) 3 zc2) 3 [(zb', ab, .slice none 0 0), u1, u2] ++ [rl bb zb.rs]) ++ [rl ba za.rs, trO R S' sv fv, gl (.slice la kn lc) (hds S kn), fo fs1, fo fs2]))) w11 := ⟨⟨2, zc.cb, zc.ws, []⟩, rfl, rfl, hA7⟩
          have hOa : Own w11 90 11 ba za.rs.length (rows encR za.rs) := hA7.P (rl ba za.rs) (by simp)
          have hOb : Own w11 90 11 bb zb.rs.length (rows encR zb.rs) := hA7.P (rl bb zb.rs) (by simp)
          rw [← hra] at hOb
          have HSm := Lib.hid (same_any hOa hOb (by omega))
          have HA7 := Lib.hid hA7
          clear hA7 hOa hOb HT3
          go_wp2_with fail
          refine HSm.out.mono ?_
          rintro e w12 ⟨rfl, m12, hw12⟩
          have hA8 := HA7.out.drewN m12
          rw [← hw12] at hA8
          have hA9 : All w.heap.size w (stF g1 (.slice (some ⟨zg1, 0, none⟩) ([(za', aa, Value.slice none 0 0)] ++ (zc', ac, .slice none 0 0) :: [x2]).length zc1) 3 ([(za', aa, Value.slice none 0 0)] ++ (zc', ac, .slice none 0 0) :: [x2]) ++ (fo fs1 :: [trO R S' sv fv])) w12 := by
            have h1 := hA8.perm (l' := stF g1 (.slice (some ⟨zg1, 0, none⟩) 3 zc1) 3 [(za', aa, .slice none 0 0), (zc', ac, .slice none 0 0), x2] ++ (fo fs1 :: trO R S' sv fv :: (rl (.slice ca ([] : List Rc).length cc) zc.rs :: ((stF g2 (.slice (some ⟨zg2, 0, none⟩) 3 zc2) 3 [(zb', ab, .slice none 0 0), u1, u2] ++ [rl bb zb.rs]) ++ [rl ba za.rs, gl (.slice la kn lc) (hds S kn), fo fs2])))) (List.Perm.append_left _ (perm_end _ _ _ _ _ _ _ _))
            exact h1.sub (List.Sublist.append_left (List.Sublist.cons_cons _ (List.Sublist.cons_cons _ (List.nil_sublist _))) _)
          have hR : TAt 0 R S' sv fv w12 := hA9.P (trO R S' sv fv) (by simp)
          have r5 := hR.blk.cell 5
          simp only [List.getElem?_cons_succ, List.getElem?_cons_zero, HD2.out.root] at r5
          have hF : (fo fs1).P w12 := hA9.P (fo fs1) (by simp)
          have HWt := Lib.hid (watch_wt (z := zc') hA9 (by intro y hy; simp at hy; subst hy; rw [hic', hia']; decide) (by simp) ⟨S'.hd 0, true, false, false, false, false, [], .slice none 0 0⟩ (World.ownsRow_nil _ _ _ _) (by simp) rfl (by have := (HY1.out 1 _ rfl).2.2.2.1; rw [hws']; simp only at this; omega) (fun y hy => by
            rw [hws'] at hy
            obtain ⟨a, c, e⟩ := own_shape (hF _ ((HY1.out 1 _ rfl).2.2.1 y hy))
            exact ⟨a, _, c, e⟩))
          rw [hic'] at HWt
          simp only [encW] at HWt
          clear hA8 hA9 hR hF HSm hw12
          by_cases hi0 : i = 0
          · have hi1 : decide (0 < (i : Int)) = false := by simp; omega
            go_wp2_with fail
            refine HWt.out.mono ?_
            rintro e w13 ⟨a', ws', fv', rfl, _, _, hA10⟩
            have c0 := (show Blk w13 g1 [.slice (some ⟨zg1, 0, none⟩) 3 zc1, .slice none 0 0, .int .i64 3] 33 from hA10.head).cell 0
            simp only [List.getElem?_cons_zero] at c0
            have HB := Lib.hid hA10.below
            clear hA10
            go_wp2_with fail
            go_ret
            exact ⟨rfl, HB.out⟩
          · have hi1 : decide (0 < (i : Int)) = true := by simp; omega
            go_wp2_with fail
            refine HWt.out.mono ?_
            rintro e w13 ⟨a', ws', fv', rfl, _, _, hA10⟩
            have c0 := (show Blk w13 g1 [.slice (some ⟨zg1, 0, none⟩) 3 zc1, .slice none 0 0, .int .i64 3] 33 from hA10.head).cell 0
            simp only [List.getElem?_cons_zero] at c0
            have HB := Lib.hid hA10.below
            clear hA10
            go_wp2_with fail
            go_ret
            exact ⟨rfl, HB.out⟩
end Go.Proofs.YtfdofkokiaapoaaDoor.W
end
section
/- The law's covers: it says covB too. -/
namespace Go.Proofs.YtfdofkokiaapoaaDoor.W
open Go.RowKit
set_option linter.unusedVariables false
set_option linter.unusedSimpArgs false

theorem contains_snoc (l : List (List UInt8)) (k : Nat) (f nm : List UInt8) (h : l[k]? = some f) : (l.take (k + 1)).contains nm = ((l.take k).contains nm || decide (f = nm)) := by
  rw [List.take_add_one, h]
  have e : ((l.take k ++ [f]).contains nm = true) ↔ (((l.take k).contains nm || decide (f = nm)) = true) := by
    simp only [List.contains_iff_mem, List.mem_append, List.mem_singleton, Bool.or_eq_true, decide_eq_true_eq]
    constructor
    · rintro (h | h)
      · exact .inl h
      · exact .inr h.symm
    · rintro (h | h)
      · exact .inl h
      · exact .inr h.symm
  simp only [Option.toList_some]
  cases h1 : (l.take k ++ [f]).contains nm <;> cases h2 : ((l.take k).contains nm || decide (f = nm)) <;> simp_all
theorem len_zero {α : Type} (l : List α) : ((l.length : Int) == 0) = l.isEmpty := by
  cases l with
  | nil => rfl
  | cons x l =>
    have e : (((x :: l).length : Int) == 0) = false := by simp; omega
    rw [e]; rfl
theorem nvF (f nm : List UInt8) : Value.bool (f == nm) = Value.bool (false || (false || decide (f = nm))) := by
  rw [Bool.false_or, Bool.false_or]
  by_cases e : f = nm <;> simp [e]
theorem nvT (f nm : List UInt8) : Value.bool true = Value.bool (false || (true || decide (f = nm))) := by simp
/-- the loop over the filter -/
def CvL (flt : List (List UInt8)) (nm : List UInt8) (W : World) (nv iv : Value) (wr : World) : Prop := ∃ k : Nat, k ≤ flt.length ∧ iv = .int .i64 (k : Int) ∧ nv = .bool (flt.isEmpty || (flt.take k).contains nm) ∧ Below W.heap.size W wr

set_option maxRecDepth 100000 in
set_option maxHeartbeats 8000000 in
theorem covers_law {R : Nat} {S : Tr} {sv fv : Value} {N : Nat} {K : Nat → List Nat} {d : Nat → Nat} {w : World} (hD : Dc S K d N) (h : TAt 0 R S sv fv w) (x : Wt) (hx : ∃ i, i ≤ N ∧ x.target = S.hd i) (r : Rc) (hr : Good S N r) (hf : FltAt w x) (hl : x.flt.length ≤ 100000) :
    Calls Tryd.prog 38 #[.pointer (some ⟨R, 0, none⟩), .agg (encW x).toArray, .agg (encR r).toArray] w fun e w' => e = .returned (.bool (covB S d N x.bare r)) ∧ Below w.heap.size w w' := by
  obtain ⟨⟨j, hj, hjt⟩, hk⟩ := hr
  obtain ⟨i, hi, hit⟩ := hx
  obtain ⟨ni, hni⟩ := Option.isSome_iff_exists.1 (hD.used i (by rw [hD.len]; omega))
  obtain ⟨nj, hnj⟩ := Option.isSome_iff_exists.1 (hD.used j (by rw [hD.len]; omega))
  obtain ⟨g, cap, rfl⟩ := slots_some h (by rw [hD.len]; omega)
  obtain ⟨t, ki, at', da, su, ol, flt, fvv⟩ := x
  obtain ⟨kd, tg, nd, pr, nx, ix, nm, od, hd, ct, sz⟩ := r
  simp only at hjt hit hk hl
  have HC := Lib.hid (fun wx (hb : Below w.heap.size w wx) => contains_any (h.below hb) hD.lk i j ni nj hni hnj)
  rw [← contH_eq hD hi hj, ← hjt, ← hit] at HC
  change Own w 9 1 fvv flt.length (flt.map strV) at hf
  obtain ⟨fa, fc, rfl⟩ := own_shape hf
  have HF := Lib.hid (fun wx (hb : Below w.heap.size w wx) (hn : 0 < flt.length) => flt_cells (own_below hf hb) hn)
  have HL := Lib.hid hl
  have hbx : Below w.heap.size w ((w.alloc (.cells #[.int .i64 t, .bool ki, .bool at', .bool da, .bool su, .bool ol, .slice fa flt.length fc] 44)).alloc (.cells #[.int .i64 kd, .int .i64 tg, .int .i64 nd, .int .i64 pr, .int .i64 nx, .int .i64 ix, .string ⟨nm.toArray⟩, .string ⟨od.toArray⟩, .bool hd, .int .i64 ct, .int .i64 sz] 90)) :=
    ((Below.refl _ _).alloc (Nat.le_refl _) _).alloc (by simp) _
  have hk4 : Blk ((w.alloc (.cells #[.int .i64 t, .bool ki, .bool at', .bool da, .bool su, .bool ol, .slice fa flt.length fc] 44)).alloc (.cells #[.int .i64 kd, .int .i64 tg, .int .i64 nd, .int .i64 pr, .int .i64 nx, .int .i64 ix, .string ⟨nm.toArray⟩, .string ⟨od.toArray⟩, .bool hd, .int .i64 ct, .int .i64 sz] 90)) w.heap.size [.int .i64 t, .bool ki, .bool at', .bool da, .bool su, .bool ol, .slice fa flt.length fc] 44 := Blk.alloc (Blk.new w _ _) _
  have hk5 : Blk ((w.alloc (.cells #[.int .i64 t, .bool ki, .bool at', .bool da, .bool su, .bool ol, .slice fa flt.length fc] 44)).alloc (.cells #[.int .i64 kd, .int .i64 tg, .int .i64 nd, .int .i64 pr, .int .i64 nx, .int .i64 ix, .string ⟨nm.toArray⟩, .string ⟨od.toArray⟩, .bool hd, .int .i64 ct, .int .i64 sz] 90)) (w.heap.size + 1) [.int .i64 kd, .int .i64 tg, .int .i64 nd, .int .i64 pr, .int .i64 nx, .int .i64 ix, .string ⟨nm.toArray⟩, .string ⟨od.toArray⟩, .bool hd, .int .i64 ct, .int .i64 sz] 90 := by
    have h5 := Blk.new (w.alloc (.cells #[.int .i64 t, .bool ki, .bool at', .bool da, .bool su, .bool ol, .slice fa flt.length fc] 44)) [.int .i64 kd, .int .i64 tg, .int .i64 nd, .int .i64 pr, .int .i64 nx, .int .i64 ix, .string ⟨nm.toArray⟩, .string ⟨od.toArray⟩, .bool hd, .int .i64 ct, .int .i64 sz] 90
    simpa using h5
  have HK4 := Lib.hid hk4
  have HK5 := Lib.hid hk5
  have HX := Lib.hid hbx
  clear h hD hni hnj hf hl hit hjt hk4 hk5
  simp only [encR, recC, strV, encW, Wt.bare]
  by_cases he : t = tg
  · rw [cov_eq (by exact he)]
    subst he
    rcases hk with rfl | rfl | rfl | rfl
    · go_enter Tryd.func38, Tryd.ntmps38
      go_wp2_with fail
      go_ret
      exact ⟨rfl, HX.out⟩
    · go_enter Tryd.func38, Tryd.ntmps38
      go_wp2_with fail
      go_ret
      exact ⟨rfl, HX.out⟩
    · rw [show kindB ⟨t, ki, at', da, su, ol, flt⟩ ⟨3, t, nd, pr, nx, ix, nm, od, hd, ct, sz⟩ = (at' && (flt.isEmpty || flt.contains nm)) from by simp [kindB]]
      go_enter Tryd.func38, Tryd.ntmps38
      go_upto_region 3 with fail
      have hb3 := HX.out
      have k4 := HK4.out
      have k5 := HK5.out
      have HB := Lib.hid hb3
      have H4 := Lib.hid k4
      have H5 := Lib.hid k5
      have c2 := k4.cell 2
      have c6 := k4.cell 6
      have d0 := k5.cell 0
      have d6 := k5.cell 6
      simp only [List.getElem?_cons_zero, List.getElem?_cons_succ] at c2 c6 d0 d6
      clear hbx hb3 k4 k5
      generalize (w.alloc (.cells #[.int .i64 t, .bool ki, .bool at', .bool da, .bool su, .bool ol, .slice fa flt.length fc] 44)).alloc (.cells #[.int .i64 3, .int .i64 t, .int .i64 nd, .int .i64 pr, .int .i64 nx, .int .i64 ix, .string ⟨nm.toArray⟩, .string ⟨od.toArray⟩, .bool hd, .int .i64 ct, .int .i64 sz] 90) = w2 at *
      go_wp2_with fail
      go_loopw [7, 47] (fun nv iv wr => CvL flt nm w2 nv iv wr) (fun _ iv _ => flt.length - (intOf iv).toNat)
      case atStart => exact ⟨0, Nat.zero_le _, rfl, by rw [len_zero]; simp, Below.refl _ _⟩
      case round =>
        obtain ⟨k, hk, rfl, rfl, hB⟩ := hrel
        have k4 := H4.out.below hB
        have k5 := H5.out.below hB
        have r2 := k4.cell 2
        have r6 := k4.cell 6
        have s6 := k5.cell 6
        simp only [List.getElem?_cons_zero, List.getElem?_cons_succ] at r2 r6 s6
        by_cases hkl : k < flt.length
        · have hb4 := bthen HB.out hB
          obtain ⟨gf, rfl, hgl, hc⟩ := HF.out wr hb4 (by omega)
          have q := hc k hkl
          obtain ⟨f, hff⟩ : ∃ f, flt[k]? = some f := ⟨_, List.getElem?_eq_getElem hkl⟩
          have hgd : flt.getD k [] = f := by rw [List.getD_eq_getElem?_getD, hff]; rfl
          rw [hgd] at q
          have HS := Lib.hid (contains_snoc flt k f nm hff)
          have hne : flt.isEmpty = false := by
            cases flt with
            | nil => simp at hkl
            | cons _ _ => rfl
          have hse := str_eq f nm
          generalize (flt.take k).contains nm = ck at *
          have HNe := Lib.hid hne
          rw [hne, Bool.false_or]
          have HHB := Lib.hid hB
          clear hc hff hgd hb4 k4 k5 hne
          cases ck
          · go_wp2_with fail
            go_quiet (fail)
            have hl1 := HL.out
            go_wp2_with fail
            go_roundw
            case rel => exact ⟨k + 1, by omega, by go_num, by rw [HNe.out, HS.out]; first | exact nvF f nm | exact nvT f nm, Below.drewN HHB.out nq⟩
            case measure => simp [intOf]; omega
          · go_wp2_with fail
            go_quiet (fail)
            have hl1 := HL.out
            go_wp2_with fail
            go_roundw
            case rel => exact ⟨k + 1, by omega, by go_num, by rw [HNe.out, HS.out]; first | exact nvF f nm | exact nvT f nm, Below.drewN HHB.out nq⟩
            case measure => simp [intOf]; omega
        · obtain rfl : k = flt.length := by omega
          rw [List.take_length]
          have hb4 := bthen HB.out hB
          clear k4 k5
          generalize hfb : (flt.isEmpty || flt.contains nm) = fb at *
          have HFb := Lib.hid hfb
          clear hfb
          cases at'
          · go_wp2_with fail
            go_ret
            exact ⟨rfl, hb4⟩
          · go_wp2_with fail
            go_ret
            refine ⟨?_, hb4⟩
            rw [Bool.true_and, HFb.out]
            rfl
    · go_enter Tryd.func38, Tryd.ntmps38
      go_wp2_with fail
      go_ret
      exact ⟨rfl, HX.out⟩
  · have e1 : (t == tg) = false := by simpa using he
    cases su
    · rw [cov_no (by exact he) (by rfl)]
      go_enter Tryd.func38, Tryd.ntmps38
      go_wp2_with fail
      go_ret
      exact ⟨rfl, HX.out⟩
    · rw [cov_sub (by exact he) (by rfl)]
      generalize contH S d N t tg = cb at *
      cases cb
      · go_enter Tryd.func38, Tryd.ntmps38
        go_wp2_with fail
        refine (HC.out _ HX.out).mono ?_
        rintro e w2 ⟨rfl, hb2⟩
        have hc0 := (bcell hb2).1
        have hb3 := HX.out.trans (hb2.mono HX.out.size)
        go_wp2_with fail
        go_ret
        exact ⟨rfl, hb3⟩
      · rw [Bool.true_and]
        rcases hk with rfl | rfl | rfl | rfl
        · go_enter Tryd.func38, Tryd.ntmps38
          go_wp2_with fail
          refine (HC.out _ HX.out).mono ?_
          rintro e w2 ⟨rfl, hb2⟩
          have hc0 := (bcell hb2).1
          have hb3 := HX.out.trans (hb2.mono HX.out.size)
          go_wp2_with fail
          go_ret
          exact ⟨rfl, hb3⟩
        · go_enter Tryd.func38, Tryd.ntmps38
          go_wp2_with fail
          refine (HC.out _ HX.out).mono ?_
          rintro e w2 ⟨rfl, hb2⟩
          have hc0 := (bcell hb2).1
          have hb3 := HX.out.trans (hb2.mono HX.out.size)
          go_wp2_with fail
          go_ret
          exact ⟨rfl, hb3⟩
        · rw [show kindB ⟨t, ki, at', da, true, ol, flt⟩ ⟨3, tg, nd, pr, nx, ix, nm, od, hd, ct, sz⟩ = (at' && (flt.isEmpty || flt.contains nm)) from by simp [kindB]]
          go_enter Tryd.func38, Tryd.ntmps38
          go_wp2_with fail
          refine (HC.out _ HX.out).mono ?_
          rintro e w2 ⟨rfl, hb2⟩
          have hb3 := HX.out.trans (hb2.mono HX.out.size)
          have k4 := HK4.out.below hb2
          have k5 := HK5.out.below hb2
          have HB := Lib.hid hb3
          have H4 := Lib.hid k4
          have H5 := Lib.hid k5
          have c2 := k4.cell 2
          have c6 := k4.cell 6
          have d0 := k5.cell 0
          have d6 := k5.cell 6
          simp only [List.getElem?_cons_zero, List.getElem?_cons_succ] at c2 c6 d0 d6
          clear hbx hb3 k4 k5
          go_wp2_with fail
          go_loopw [7, 47] (fun nv iv wr => CvL flt nm w2 nv iv wr) (fun _ iv _ => flt.length - (intOf iv).toNat)
          case atStart => exact ⟨0, Nat.zero_le _, rfl, by rw [len_zero]; simp, Below.refl _ _⟩
          case round =>
            obtain ⟨k, hk, rfl, rfl, hB⟩ := hrel
            have k4 := H4.out.below hB
            have k5 := H5.out.below hB
            have r2 := k4.cell 2
            have r6 := k4.cell 6
            have s6 := k5.cell 6
            simp only [List.getElem?_cons_zero, List.getElem?_cons_succ] at r2 r6 s6
            by_cases hkl : k < flt.length
            · have hb4 := bthen HB.out hB
              obtain ⟨gf, rfl, hgl, hc⟩ := HF.out wr hb4 (by omega)
              have q := hc k hkl
              obtain ⟨f, hff⟩ : ∃ f, flt[k]? = some f := ⟨_, List.getElem?_eq_getElem hkl⟩
              have hgd : flt.getD k [] = f := by rw [List.getD_eq_getElem?_getD, hff]; rfl
              rw [hgd] at q
              have HS := Lib.hid (contains_snoc flt k f nm hff)
              have hne : flt.isEmpty = false := by
                cases flt with
                | nil => simp at hkl
                | cons _ _ => rfl
              have hse := str_eq f nm
              generalize (flt.take k).contains nm = ck at *
              have HNe := Lib.hid hne
              rw [hne, Bool.false_or]
              have HHB := Lib.hid hB
              clear hc hff hgd hb4 k4 k5 hne
              cases ck
              · go_wp2_with fail
                go_quiet (fail)
                have hl1 := HL.out
                go_wp2_with fail
                go_roundw
                case rel => exact ⟨k + 1, by omega, by go_num, by rw [HNe.out, HS.out]; first | exact nvF f nm | exact nvT f nm, Below.drewN HHB.out nq⟩
                case measure => simp [intOf]; omega
              · go_wp2_with fail
                go_quiet (fail)
                have hl1 := HL.out
                go_wp2_with fail
                go_roundw
                case rel => exact ⟨k + 1, by omega, by go_num, by rw [HNe.out, HS.out]; first | exact nvF f nm | exact nvT f nm, Below.drewN HHB.out nq⟩
                case measure => simp [intOf]; omega
            · obtain rfl : k = flt.length := by omega
              rw [List.take_length]
              have hb4 := bthen HB.out hB
              clear k4 k5
              generalize hfb : (flt.isEmpty || flt.contains nm) = fb at *
              have HFb := Lib.hid hfb
              clear hfb
              cases at'
              · go_wp2_with fail
                go_ret
                exact ⟨rfl, hb4⟩
              · go_wp2_with fail
                go_ret
                refine ⟨?_, hb4⟩
                rw [Bool.true_and, HFb.out]
                rfl
        · go_enter Tryd.func38, Tryd.ntmps38
          go_wp2_with fail
          refine (HC.out _ HX.out).mono ?_
          rintro e w2 ⟨rfl, hb2⟩
          have hc0 := (bcell hb2).1
          have hb3 := HX.out.trans (hb2.mono HX.out.size)
          go_wp2_with fail
          go_ret
          exact ⟨rfl, hb3⟩
end Go.Proofs.YtfdofkokiaapoaaDoor.W
end
