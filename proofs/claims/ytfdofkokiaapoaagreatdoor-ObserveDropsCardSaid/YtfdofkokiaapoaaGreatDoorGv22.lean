/- Texts joined: ZoG Dsk CovL Ntd. -/
import Derived.Test.YtfdofkokiaapoaaGreatDoorGv21
import Derived.Test.YtfdofkokiaapoaaGreatDoorGv18
import Derived.Test.YtfdofkokiaapoaaGreatDoorGv13
import Derived.Test.YtfdofkokiaapoaaGreatDoorGv17
import Derived.Deep.RegionLaw
section
/- awake returns true. -/
namespace Go.Proofs.YtfdofkokiaapoaaGreatDoor.W.Z
open Go.RowKit
set_option linter.unusedVariables false

/-- a new State -/
theorem st_new {B : Nat} {w0 w : World} {l : List Ob} (h : All B w0 l w) (g : Nat) (hg : w.heap.size = g) : All B w0 (stL g (.slice none 0 0) 0 [] ++ l) (w.alloc (.cells #[.slice none 0 0, .slice none 0 0, .int .i64 0] 34)) :=
  ((h.nil 96 4).newBkA g hg [.slice none 0 0, .slice none 0 0, .int .i64 0] 34)
/-- a slice of sizes is one of some -/
theorem st_slice {B : Nat} {w0 w : World} {g : Nat} {zv : Value} {nx : Int} {z : Zv} {zs : List Zv} {l : List Ob} (h : All B w0 (stL g zv nx (z :: zs) ++ l) w) : ∃ zg zc, zv = .slice (some ⟨zg, 0, none⟩) (z :: zs).length zc := by
  have hr : Own _ _ _ _ _ _ := h.tail.head
  obtain ⟨zg, zc, h1, _⟩ := own_some hr (by simp)
  exact ⟨zg, zc, h1⟩
theorem map_one {zs' : List Zv} {z : Zr} (h : zs'.map (·.1) = [z]) : ∃ a b, zs' = [(z, a, b)] := by
  match zs', h with
  | [(u, a, b)], h =>
    simp at h
    subst h
    exact ⟨a, b, rfl⟩

set_option maxRecDepth 100000 in
set_option maxHeartbeats 1000000 in
theorem awake_any (w : World) : Calls Tryz.prog 5 #[] w fun e w' => e = .returned (.bool true) ∧ Below w.heap.size w w' := by
  have h0 := st_new (All.start w) w.heap.size rfl
  obtain ⟨g, hg⟩ : ∃ g, w.heap.size = g := ⟨_, rfl⟩
  have HC := Lib.hid (create_any h0 4 (by omega) (by omega) (by simp))
  rw [hg] at HC
  clear h0
  go_enter Tryz.func5, Tryz.ntmps5
  go_wp2_with fail
  refine HC.out.mono ?_
  rintro e w1 ⟨zv, rfl, hA1⟩
  obtain ⟨zg, zc, rfl⟩ := st_slice hA1
  have HO := Lib.hid (observe_new (z1 := []) (z2 := []) (z := ⟨1, 4, [], []⟩) hA1 (by simp) (by simp) 9 (by simp) rfl)
  clear hA1 HC
  go_wp2_with fail
  refine HO.out.mono ?_
  rintro e w2 ⟨a2, rfl, hA2⟩
  have hA3 := (hA2.newSlA w2.heap.size rfl 67 3 1 (rows encZ [(9, 3, 5)]) rfl (by omega)).perm List.perm_middle.symm
  have HM := Lib.hid (measure_any (lv := .slice (some ⟨w2.heap.size, 0, none⟩) 1 1) (L := [(9, 3, 5)]) hA3 rfl (by simp) (by simp [zl]) (by simp) (by simp [Zr.watch]))
  clear hA2 hA3 HO
  go_wp2_with fail
  refine HM.out.mono ?_
  rintro e w3 ⟨zs', rfl, hm, hA4⟩
  obtain ⟨a4, b4, rfl⟩ := map_one (z := ⟨1, 4, [(9, 3, 5)], [(9, 3, 5)]⟩) (hm.trans (by simp [Zr.meas, Zr.watch, nowOf, stepE, putEn]))
  have HD := Lib.hid (deliver_some (z1 := []) (z2 := []) (z := ⟨1, 4, [(9, 3, 5)], [(9, 3, 5)]⟩) hA4 (by simp) (by simp) (by simp) (by simp [nextOf, nextStep]))
  clear hm hA4 HM
  go_wp2_with fail
  refine HD.out.mono ?_
  rintro e w4 ⟨rfl, hA5⟩
  have ho : Own _ _ _ _ _ _ := hA5.P (zl b4 [(9, 3, 5)]) (by simp)
  obtain ⟨bg, bc, rfl, ⟨e0, e1, e2⟩, ef, elt⟩ := z_cells (k := 0) ho rfl
  have hB := Lib.hid hA5.below
  clear HD hA5 ho
  simp only [Nat.zero_mul] at e0 e1 e2
  have hbn : bg ≠ w4.heap.size := by omega
  go_wp2_with fail
  go_ret
  refine ⟨rfl, ?_⟩
  have h := hB.out
  subst hg
  exact h.alloc h.size _
end Go.Proofs.YtfdofkokiaapoaaGreatDoor.W.Z
end
section
/- What is known of observers in the laws' loops; lists of objects in another order. -/
namespace Go.Proofs.YtfdofkokiaapoaaGreatDoor.W
open Go.RowKit
set_option linter.unusedVariables false
set_option linter.unusedSimpArgs false

theorem perm3 (U V X : List Ob) : (U ++ (V ++ X)).Perm (X ++ (V ++ U)) := by
  have h1 : (U ++ (V ++ X)).Perm ((V ++ X) ++ U) := List.perm_append_comm
  have h2 : ((V ++ X) ++ U).Perm ((X ++ V) ++ U) := List.perm_append_comm.append_right U
  rw [← List.append_assoc X V U]
  exact h1.trans h2
theorem permD1 (A1 A2 : List Ob) (F1 F2 T G : Ob) : (A2 ++ (F2 :: (A1 ++ (F1 :: [T, G])))).Perm (T :: G :: (A1 ++ (F1 :: (A2 ++ [F2])))) := by
  simpa using perm3 (A2 ++ [F2]) (A1 ++ [F1]) [T, G]
theorem permD2 (A1 Z : List Ob) (X T G F1 : Ob) : (X :: T :: G :: (A1 ++ (F1 :: Z))).Perm (A1 ++ (F1 :: T :: X :: (G :: Z))) := by
  have h1 : ([X, T, G] ++ ((A1 ++ [F1]) ++ Z)).Perm ((A1 ++ [F1]) ++ ([X, T, G] ++ Z)) := List.perm_append_comm_assoc _ _ _
  have h2 : ([X, T, G] ++ ((A1 ++ [F1]) ++ Z)).Perm (A1 ++ (F1 :: X :: T :: (G :: Z))) := by simpa using h1
  have h3 : (A1 ++ (F1 :: X :: T :: (G :: Z))).Perm (A1 ++ (F1 :: T :: X :: (G :: Z))) := List.Perm.append_left A1 (.cons F1 (.swap T X _))
  have h4 := h2.trans h3
  simpa using h4
theorem permD3 (A1 A2 : List Ob) (F1 F2 T G X : Ob) : (A1 ++ (F1 :: T :: X :: (G :: (A2 ++ [F2])))).Perm (A2 ++ (F2 :: T :: X :: (G :: (A1 ++ [F1])))) := by
  simpa using perm3 (A1 ++ [F1]) [T, X, G] (A2 ++ [F2])
theorem permD4 (A1 A2 : List Ob) (F1 F2 T G X : Ob) : (A2 ++ (F2 :: T :: X :: (G :: (A1 ++ [F1])))).Perm (X :: T :: G :: (A1 ++ (F1 :: (A2 ++ [F2])))) :=
  (permD3 A2 A1 F2 F1 T G X).trans (permD2 A1 (A2 ++ [F2]) X T G F1).symm
theorem perm_end (A : List Ob) (x y z t g f f2 : Ob) : (x :: ((A ++ [y]) ++ [z, t, g, f, f2])).Perm (f :: t :: (x :: ((A ++ [y]) ++ [z, g, f2]))) := by
  have h1 : (x :: ((A ++ [y]) ++ [z, t, g, f, f2])).Perm (x :: ((A ++ [y]) ++ [f, t, z, g, f2])) := .cons x (List.Perm.append_left _ (by
    exact ((List.Perm.swap t z _).trans ((List.Perm.cons t ((List.Perm.cons z (List.Perm.swap f g _)).trans (List.Perm.swap f z _))).trans (List.Perm.swap f t _)))))
  have h2 : (x :: ((A ++ [y]) ++ ([f, t] ++ [z, g, f2]))).Perm ([f, t] ++ (x :: ((A ++ [y]) ++ [z, g, f2]))) := List.perm_append_comm_assoc (x :: (A ++ [y])) [f, t] [z, g, f2]
  exact h1.trans h2
/-- watched, and its State and its watches laid into variables -/
theorem wd_state {B : Nat} {w0 w w' : World} {l : List Ob} (h : All B w0 l w) {zv : Value} {zs : List Oz} {fs : List Fl} {ts : List Tw} (hw : All w.heap.size w (sl 60 4 zv 3 (rows encO zs) :: (obF zs ++ (fo fs :: twO ts))) w') (hz : zs.length = 3) (cs : List Value) :
    All B w0 (stF w'.heap.size zv 3 zs ++ (fo fs :: (bk (w'.heap.size + 1) cs 36 :: (twO ts ++ l)))) ((w'.alloc (.cells #[zv, .slice none 0 0, .int .i64 3] 34)).alloc (.cells cs.toArray 36)) := by
  have h1 := ((h.after hw).newBkA w'.heap.size rfl [zv, .slice none 0 0, .int .i64 3] 34).newBkA (w'.heap.size + 1) (by simp) cs 36
  have h2 := h1.perm (l' := stF w'.heap.size zv 3 zs ++ (fo fs :: (bk (w'.heap.size + 1) cs 36 :: (twO ts ++ l)))) (by
    have := (List.perm_middle (a := bk (w'.heap.size + 1) cs 36) (l₁ := stF w'.heap.size zv 3 zs ++ [fo fs]) (l₂ := twO ts ++ l)).symm
    unfold stF at this ⊢
    rw [hz] at this ⊢
    simpa using this)
  exact h2

theorem wd_shape {w : World} {ts : List Tw} {v0 v1 v2 : Value} (h : tws ts = [v0, v1, v2]) (ho : ∀ t ∈ ts, (sl 58 7 t.2 t.1.length (rows encW t.1)).P w) :
    ∃ b0 d0 b1 d1 b2 d2, ∃ n0 n1 n2 : Nat, v0 = .slice b0 n0 d0 ∧ v1 = .slice b1 n1 d1 ∧ v2 = .slice b2 n2 d2 := by
  match ts, h with
  | [t0, t1, t2], h =>
    simp only [tws, List.map_cons, List.map_nil, List.cons.injEq, and_true] at h
    obtain ⟨rfl, rfl, rfl⟩ := h
    obtain ⟨b0, d0, e0⟩ := own_shape (show Own _ _ _ _ _ _ from ho t0 (by simp))
    obtain ⟨b1, d1, e1⟩ := own_shape (show Own _ _ _ _ _ _ from ho t1 (by simp))
    obtain ⟨b2, d2, e2⟩ := own_shape (show Own _ _ _ _ _ _ from ho t2 (by simp))
    exact ⟨b0, d0, b1, d1, b2, d2, _, _, _, e0, e1, e2⟩
/-- what is known of an observer, after i rounds -/
def DsK (l : List Int) (f : Nat → Pl4) (pn : Nat) (fs : List Fl) (dc : Bool) (n i j : Nat) (x : Oz) : Prop :=
  x.1.id = (j : Int) + 1 ∧ OfP l x.1 ∧ FIn fs x.1.ws ∧ x.1.ws.length ≤ 1000 ∧ (∀ y ∈ x.1.ws, y.flt.length ≤ 1000) ∧ x.1.rs.length ≤ 2 * i ∧ (dc = true → j = 1 → n / 2 < i → x.1.ws = [] ∧ x.1.rs = []) ∧ (j = 0 → x.1.ws.map Wt.bare = plW l f 0 pn)
def DcO (g1 zg1 zc1 : Nat) (zs1 : List Oz) (fs1 : List Fl) (g2 zg2 zc2 : Nat) (zs2 : List Oz) (fs2 : List Fl) (R : Nat) (S : Tr) (sv fv lv : Value) (l : List Int) : List Ob :=
  trO R S sv fv :: gl lv l :: (stF g1 (.slice (some ⟨zg1, 0, none⟩) 3 zc1) 3 zs1 ++ (fo fs1 :: (stF g2 (.slice (some ⟨zg2, 0, none⟩) 3 zc2) 3 zs2 ++ [fo fs2])))
def DcR (w : World) (f : Nat → Pl4) (pn n N : Nat) (S : Tr) (g1 zg1 zc1 : Nat) (fs1 : List Fl) (g2 zg2 zc2 : Nat) (fs2 : List Fl) (R : Nat) (sv fv lv : Value) (iv : Value) (wr : World) : Prop :=
  ∃ (i : Nat) (S' : Tr) (K' : Nat → List Nat) (d' : Nat → Nat) (zs1 zs2 : List Oz), i ≤ n ∧ iv = .int .i64 (i : Int) ∧ zs1.length = 3 ∧ zs2.length = 3 ∧ (∀ (j : Nat) (x : Oz), zs1[j]? = some x → DsK (hds S N) f pn fs1 true n i j x) ∧ (∀ (j : Nat) (x : Oz), zs2[j]? = some x → DsK (hds S N) f pn fs2 false n i j x) ∧
    (∀ x y : Oz, zs1[0]? = some x → zs2[0]? = some y → x.1.rs = y.1.rs) ∧ Dc S' K' d' N ∧ S'.b = S.b ∧ S'.s = S.s ∧ All w.heap.size w (DcO g1 zg1 zc1 zs1 fs1 g2 zg2 zc2 zs2 fs2 R S' sv fv lv (hds S N)) wr
theorem dsk_start {l : List Int} {f : Nat → Pl4} {pn : Nat} {fs : List Fl} {n j : Nat} {x : Oz} (dc : Bool) (h : ObK l f fs pn j x) (hp : pn ≤ 20) : DsK l f pn fs dc n 0 j x := by
  obtain ⟨h1, h2, h3, h4, h5⟩ := h
  obtain ⟨a1, a2, a3, a4, a5⟩ := obk_of (show ObK l f fs pn j x from ⟨h1, h2, h3, h4, h5⟩) (by omega)
  have hl := plW_len l f j pn
  rw [← h4, List.length_map] at hl
  refine ⟨h1, a1, h5, by omega, fun y hy => ?_, by rw [h3]; simp, fun _ _ hlt => absurd hlt (Nat.not_lt_zero _), fun hj => hj ▸ h4⟩
  have := plW_tg l f j pn y.bare (by rw [← h4]; exact List.mem_map_of_mem hy)
  obtain ⟨m, _, h⟩ := this
  have : y.flt.length ≤ 3 := h
  omega
theorem dsk_ok {l : List Int} {f : Nat → Pl4} {pn : Nat} {fs : List Fl} {dc : Bool} {n i : Nat} {zs : List Oz} (h : ∀ (j : Nat) (x : Oz), zs[j]? = some x → DsK l f pn fs dc n i j x) (hi : i ≤ 60) : ∀ z ∈ zs, OkO fs z.1 := fun z hz => by
  obtain ⟨j, hj⟩ := List.mem_iff_getElem?.1 hz
  obtain ⟨h1, h2, h3, h4, h5, h6, h7, h8⟩ := h j z hj
  refine ⟨h3, by omega, by omega, fun x hx => ?_⟩
  have := h5 x hx
  omega
theorem dsk_tg {S S' : Tr} {N : Nat} {f : Nat → Pl4} {pn : Nat} {fs : List Fl} {dc : Bool} {n i : Nat} {zs : List Oz} (h : ∀ (j : Nat) (x : Oz), zs[j]? = some x → DsK (hds S N) f pn fs dc n i j x) (hN : 0 < N) (hb : S'.b = S.b) (hs : S'.s = S.s) : ∀ z ∈ zs, TgO S' N z.1 := fun z hz => by
  obtain ⟨j, hj⟩ := List.mem_iff_getElem?.1 hz
  exact (h j z hj).2.1.tg hN hb hs
/-- a round, but for the disconnection -/
theorem dsk_up {l : List Int} {f : Nat → Pl4} {pn : Nat} {fs : List Fl} {dc : Bool} {n i : Nat} {zs zs' : List Oz} {c : Wb → Rc → Bool} {rs : List Rc} (h : ∀ (j : Nat) (x : Oz), zs[j]? = some x → DsK l f pn fs dc n i j x) (he : zs'.map pz = (zs.map pz).map (upL c rs)) (hr : rs.length ≤ 2) :
    ∀ (j : Nat) (x : Oz), zs'[j]? = some x → (dc = true → j = 1 → n / 2 ≠ i) → DsK l f pn fs dc n (i + 1) j x := fun j x hx hne => by
  obtain ⟨y, hy, e⟩ := up_at he hx
  obtain ⟨h1, h2, h3, h4, h5, h6, h7, h8⟩ := h j y hy
  have hl := toldL_len c (y.1.ws.map Wt.bare) rs
  unfold DsK OfP
  rw [e]
  refine ⟨h1, h2, h3, h4, h5, by rw [List.length_append]; omega, fun hd hj hlt => ?_, h8⟩
  have := hne hd hj
  obtain ⟨e1, e2⟩ := h7 hd hj (by omega)
  refine ⟨e1, ?_⟩
  show y.1.rs ++ toldL c (y.1.ws.map Wt.bare) rs = []
  rw [e1, e2, List.map_nil, told_none]
  rfl
theorem rs_up {l : List Int} {f : Nat → Pl4} {pn : Nat} {fs1 fs2 : List Fl} {n i : Nat} {z1 z1' z2 z2' : List Oz} {c : Wb → Rc → Bool} {rs : List Rc} (h1 : ∀ (j : Nat) (x : Oz), z1[j]? = some x → DsK l f pn fs1 true n i j x) (h2 : ∀ (j : Nat) (x : Oz), z2[j]? = some x → DsK l f pn fs2 false n i j x)
    (hr : ∀ x y : Oz, z1[0]? = some x → z2[0]? = some y → x.1.rs = y.1.rs) (e1 : z1'.map pz = (z1.map pz).map (upL c rs)) (e2 : z2'.map pz = (z2.map pz).map (upL c rs)) : ∀ x y : Oz, z1'[0]? = some x → z2'[0]? = some y → x.1.rs = y.1.rs := fun x y hx hy => by
  obtain ⟨u, hu, eu⟩ := up_at e1 hx
  obtain ⟨v, hv, ev⟩ := up_at e2 hy
  have a1 := (h1 0 u hu).2.2.2.2.2.2.2 rfl
  have a2 := (h2 0 v hv).2.2.2.2.2.2.2 rfl
  rw [eu, ev]
  show u.1.rs ++ toldL c (u.1.ws.map Wt.bare) rs = v.1.rs ++ toldL c (v.1.ws.map Wt.bare) rs
  rw [a1, a2, hr u v hu hv]

end Go.Proofs.YtfdofkokiaapoaaGreatDoor.W
end
section
/- The law's covers: it says covB too. -/
namespace Go.Proofs.YtfdofkokiaapoaaGreatDoor.W
open Go.RowKit
set_option linter.unusedVariables false
set_option linter.unusedSimpArgs false

theorem contains_snoc (l : List (List UInt8)) (k : Nat) (f nm : List UInt8) (h : l[k]? = some f) : (l.take (k + 1)).contains nm = ((l.take k).contains nm || decide (f = nm)) := by
  rw [List.take_add_one, h]
  have e : ((l.take k ++ [f]).contains nm = true) ↔ (((l.take k).contains nm || decide (f = nm)) = true) := by
    simp only [List.contains_iff_mem, List.mem_append, List.mem_singleton, Bool.or_eq_true, decide_eq_true_eq]
    constructor
    · rintro (h | h)
      · exact .inl h
      · exact .inr h.symm
    · rintro (h | h)
      · exact .inl h
      · exact .inr h.symm
  simp only [Option.toList_some]
  cases h1 : (l.take k ++ [f]).contains nm <;> cases h2 : ((l.take k).contains nm || decide (f = nm)) <;> simp_all
theorem len_zero {α : Type} (l : List α) : ((l.length : Int) == 0) = l.isEmpty := by
  cases l with
  | nil => rfl
  | cons x l =>
    have e : (((x :: l).length : Int) == 0) = false := by simp; omega
    rw [e]; rfl
theorem nvF (f nm : List UInt8) : Value.bool (f == nm) = Value.bool (false || (false || decide (f = nm))) := by
  rw [Bool.false_or, Bool.false_or]
  by_cases e : f = nm <;> simp [e]
theorem nvT (f nm : List UInt8) : Value.bool true = Value.bool (false || (true || decide (f = nm))) := by simp
/-- the loop over the filter -/
def CvL (flt : List (List UInt8)) (nm : List UInt8) (W : World) (nv iv : Value) (wr : World) : Prop := ∃ k : Nat, k ≤ flt.length ∧ iv = .int .i64 (k : Int) ∧ nv = .bool (flt.isEmpty || (flt.take k).contains nm) ∧ Below W.heap.size W wr

set_option maxRecDepth 100000 in
set_option maxHeartbeats 8000000 in
theorem covers_law {R : Nat} {S : Tr} {sv fv : Value} {N : Nat} {K : Nat → List Nat} {d : Nat → Nat} {w : World} (hD : Dc S K d N) (h : TAt 0 R S sv fv w) (x : Wt) (hx : ∃ i, i ≤ N ∧ x.target = S.hd i) (r : Rc) (hr : Good S N r) (hf : FltAt w x) (hl : x.flt.length ≤ 100000) :
    Calls Tryz.prog 46 #[.pointer (some ⟨R, 0, none⟩), .agg (encW x).toArray, .agg (encR r).toArray] w fun e w' => e = .returned (.bool (covB S d N x.bare r)) ∧ Below w.heap.size w w' := by
  obtain ⟨⟨j, hj, hjt⟩, hk⟩ := hr
  obtain ⟨i, hi, hit⟩ := hx
  obtain ⟨ni, hni⟩ := Option.isSome_iff_exists.1 (hD.used i (by rw [hD.len]; omega))
  obtain ⟨nj, hnj⟩ := Option.isSome_iff_exists.1 (hD.used j (by rw [hD.len]; omega))
  obtain ⟨g, cap, rfl⟩ := slots_some h (by rw [hD.len]; omega)
  obtain ⟨t, ki, at', da, su, ol, flt, fvv⟩ := x
  obtain ⟨kd, tg, nd, pr, nx, ix, nm, od, hd, ct, sz⟩ := r
  simp only at hjt hit hk hl
  have HC := Lib.hid (fun wx (hb : Below w.heap.size w wx) => contains_any (h.below hb) hD.lk i j ni nj hni hnj)
  rw [← contH_eq hD hi hj, ← hjt, ← hit] at HC
  change Own w 9 1 fvv flt.length (flt.map strV) at hf
  obtain ⟨fa, fc, rfl⟩ := own_shape hf
  have HF := Lib.hid (fun wx (hb : Below w.heap.size w wx) (hn : 0 < flt.length) => flt_cells (own_below hf hb) hn)
  have HL := Lib.hid hl
  have hbx : Below w.heap.size w ((w.alloc (.cells #[.int .i64 t, .bool ki, .bool at', .bool da, .bool su, .bool ol, .slice fa flt.length fc] 58)).alloc (.cells #[.int .i64 kd, .int .i64 tg, .int .i64 nd, .int .i64 pr, .int .i64 nx, .int .i64 ix, .string ⟨nm.toArray⟩, .string ⟨od.toArray⟩, .bool hd, .int .i64 ct, .int .i64 sz] 86)) :=
    ((Below.refl _ _).alloc (Nat.le_refl _) _).alloc (by simp) _
  have hk4 : Blk ((w.alloc (.cells #[.int .i64 t, .bool ki, .bool at', .bool da, .bool su, .bool ol, .slice fa flt.length fc] 58)).alloc (.cells #[.int .i64 kd, .int .i64 tg, .int .i64 nd, .int .i64 pr, .int .i64 nx, .int .i64 ix, .string ⟨nm.toArray⟩, .string ⟨od.toArray⟩, .bool hd, .int .i64 ct, .int .i64 sz] 86)) w.heap.size [.int .i64 t, .bool ki, .bool at', .bool da, .bool su, .bool ol, .slice fa flt.length fc] 58 := Blk.alloc (Blk.new w _ _) _
  have hk5 : Blk ((w.alloc (.cells #[.int .i64 t, .bool ki, .bool at', .bool da, .bool su, .bool ol, .slice fa flt.length fc] 58)).alloc (.cells #[.int .i64 kd, .int .i64 tg, .int .i64 nd, .int .i64 pr, .int .i64 nx, .int .i64 ix, .string ⟨nm.toArray⟩, .string ⟨od.toArray⟩, .bool hd, .int .i64 ct, .int .i64 sz] 86)) (w.heap.size + 1) [.int .i64 kd, .int .i64 tg, .int .i64 nd, .int .i64 pr, .int .i64 nx, .int .i64 ix, .string ⟨nm.toArray⟩, .string ⟨od.toArray⟩, .bool hd, .int .i64 ct, .int .i64 sz] 86 := by
    have h5 := Blk.new (w.alloc (.cells #[.int .i64 t, .bool ki, .bool at', .bool da, .bool su, .bool ol, .slice fa flt.length fc] 58)) [.int .i64 kd, .int .i64 tg, .int .i64 nd, .int .i64 pr, .int .i64 nx, .int .i64 ix, .string ⟨nm.toArray⟩, .string ⟨od.toArray⟩, .bool hd, .int .i64 ct, .int .i64 sz] 86
    simpa using h5
  have HK4 := Lib.hid hk4
  have HK5 := Lib.hid hk5
  have HX := Lib.hid hbx
  clear h hD hni hnj hf hl hit hjt hk4 hk5
  simp only [encR, recC, strV, encW, Wt.bare]
  by_cases he : t = tg
  · rw [cov_eq (by exact he)]
    subst he
    rcases hk with rfl | rfl | rfl | rfl
    · go_enter Tryz.func46, Tryz.ntmps46
      go_wp2_with fail
      go_ret
      exact ⟨rfl, HX.out⟩
    · go_enter Tryz.func46, Tryz.ntmps46
      go_wp2_with fail
      go_ret
      exact ⟨rfl, HX.out⟩
    · rw [show kindB ⟨t, ki, at', da, su, ol, flt⟩ ⟨3, t, nd, pr, nx, ix, nm, od, hd, ct, sz⟩ = (at' && (flt.isEmpty || flt.contains nm)) from by simp [kindB]]
      go_enter Tryz.func46, Tryz.ntmps46
      go_upto_region 3 with fail
      have hb3 := HX.out
      have k4 := HK4.out
      have k5 := HK5.out
      have HB := Lib.hid hb3
      have H4 := Lib.hid k4
      have H5 := Lib.hid k5
      have c2 := k4.cell 2
      have c6 := k4.cell 6
      have d0 := k5.cell 0
      have d6 := k5.cell 6
      simp only [List.getElem?_cons_zero, List.getElem?_cons_succ] at c2 c6 d0 d6
      clear hbx hb3 k4 k5
      generalize (w.alloc (.cells #[.int .i64 t, .bool ki, .bool at', .bool da, .bool su, .bool ol, .slice fa flt.length fc] 58)).alloc (.cells #[.int .i64 3, .int .i64 t, .int .i64 nd, .int .i64 pr, .int .i64 nx, .int .i64 ix, .string ⟨nm.toArray⟩, .string ⟨od.toArray⟩, .bool hd, .int .i64 ct, .int .i64 sz] 86) = w2 at *
      go_wp2_with fail
      go_loopw [7, 47] (fun nv iv wr => CvL flt nm w2 nv iv wr) (fun _ iv _ => flt.length - (intOf iv).toNat)
      case atStart => exact ⟨0, Nat.zero_le _, rfl, by rw [len_zero]; simp, Below.refl _ _⟩
      case round =>
        obtain ⟨k, hk, rfl, rfl, hB⟩ := hrel
        have k4 := H4.out.below hB
        have k5 := H5.out.below hB
        have r2 := k4.cell 2
        have r6 := k4.cell 6
        have s6 := k5.cell 6
        simp only [List.getElem?_cons_zero, List.getElem?_cons_succ] at r2 r6 s6
        by_cases hkl : k < flt.length
        · have hb4 := bthen HB.out hB
          obtain ⟨gf, rfl, hgl, hc⟩ := HF.out wr hb4 (by omega)
          have q := hc k hkl
          obtain ⟨f, hff⟩ : ∃ f, flt[k]? = some f := ⟨_, List.getElem?_eq_getElem hkl⟩
          have hgd : flt.getD k [] = f := by rw [List.getD_eq_getElem?_getD, hff]; rfl
          rw [hgd] at q
          have HS := Lib.hid (contains_snoc flt k f nm hff)
          have hne : flt.isEmpty = false := by
            cases flt with
            | nil => simp at hkl
            | cons _ _ => rfl
          have hse := str_eq f nm
          generalize (flt.take k).contains nm = ck at *
          have HNe := Lib.hid hne
          rw [hne, Bool.false_or]
          have HHB := Lib.hid hB
          clear hc hff hgd hb4 k4 k5 hne
          cases ck
          · go_wp2_with fail
            go_quiet (fail)
            have hl1 := HL.out
            go_wp2_with fail
            go_roundw
            case rel => exact ⟨k + 1, by omega, by go_num, by rw [HNe.out, HS.out]; first | exact nvF f nm | exact nvT f nm, Below.drewN HHB.out nq⟩
            case measure => simp [intOf]; omega
          · go_wp2_with fail
            go_quiet (fail)
            have hl1 := HL.out
            go_wp2_with fail
            go_roundw
            case rel => exact ⟨k + 1, by omega, by go_num, by rw [HNe.out, HS.out]; first | exact nvF f nm | exact nvT f nm, Below.drewN HHB.out nq⟩
            case measure => simp [intOf]; omega
        · obtain rfl : k = flt.length := by omega
          rw [List.take_length]
          have hb4 := bthen HB.out hB
          clear k4 k5
          generalize hfb : (flt.isEmpty || flt.contains nm) = fb at *
          have HFb := Lib.hid hfb
          clear hfb
          cases at'
          · go_wp2_with fail
            go_ret
            exact ⟨rfl, hb4⟩
          · go_wp2_with fail
            go_ret
            refine ⟨?_, hb4⟩
            rw [Bool.true_and, HFb.out]
            rfl
    · go_enter Tryz.func46, Tryz.ntmps46
      go_wp2_with fail
      go_ret
      exact ⟨rfl, HX.out⟩
  · have e1 : (t == tg) = false := by simpa using he
    cases su
    · rw [cov_no (by exact he) (by rfl)]
      go_enter Tryz.func46, Tryz.ntmps46
      go_wp2_with fail
      go_ret
      exact ⟨rfl, HX.out⟩
    · rw [cov_sub (by exact he) (by rfl)]
      generalize contH S d N t tg = cb at *
      cases cb
      · go_enter Tryz.func46, Tryz.ntmps46
        go_wp2_with fail
        refine (HC.out _ HX.out).mono ?_
        rintro e w2 ⟨rfl, hb2⟩
        have hc0 := (bcell hb2).1
        have hb3 := HX.out.trans (hb2.mono HX.out.size)
        go_wp2_with fail
        go_ret
        exact ⟨rfl, hb3⟩
      · rw [Bool.true_and]
        rcases hk with rfl | rfl | rfl | rfl
        · go_enter Tryz.func46, Tryz.ntmps46
          go_wp2_with fail
          refine (HC.out _ HX.out).mono ?_
          rintro e w2 ⟨rfl, hb2⟩
          have hc0 := (bcell hb2).1
          have hb3 := HX.out.trans (hb2.mono HX.out.size)
          go_wp2_with fail
          go_ret
          exact ⟨rfl, hb3⟩
        · go_enter Tryz.func46, Tryz.ntmps46
          go_wp2_with fail
          refine (HC.out _ HX.out).mono ?_
          rintro e w2 ⟨rfl, hb2⟩
          have hc0 := (bcell hb2).1
          have hb3 := HX.out.trans (hb2.mono HX.out.size)
          go_wp2_with fail
          go_ret
          exact ⟨rfl, hb3⟩
        · rw [show kindB ⟨t, ki, at', da, true, ol, flt⟩ ⟨3, tg, nd, pr, nx, ix, nm, od, hd, ct, sz⟩ = (at' && (flt.isEmpty || flt.contains nm)) from by simp [kindB]]
          go_enter Tryz.func46, Tryz.ntmps46
          go_wp2_with fail
          refine (HC.out _ HX.out).mono ?_
          rintro e w2 ⟨rfl, hb2⟩
          have hb3 := HX.out.trans (hb2.mono HX.out.size)
          have k4 := HK4.out.below hb2
          have k5 := HK5.out.below hb2
          have HB := Lib.hid hb3
          have H4 := Lib.hid k4
          have H5 := Lib.hid k5
          have c2 := k4.cell 2
          have c6 := k4.cell 6
          have d0 := k5.cell 0
          have d6 := k5.cell 6
          simp only [List.getElem?_cons_zero, List.getElem?_cons_succ] at c2 c6 d0 d6
          clear hbx hb3 k4 k5
          go_wp2_with fail
          go_loopw [7, 47] (fun nv iv wr => CvL flt nm w2 nv iv wr) (fun _ iv _ => flt.length - (intOf iv).toNat)
          case atStart => exact ⟨0, Nat.zero_le _, rfl, by rw [len_zero]; simp, Below.refl _ _⟩
          case round =>
            obtain ⟨k, hk, rfl, rfl, hB⟩ := hrel
            have k4 := H4.out.below hB
            have k5 := H5.out.below hB
            have r2 := k4.cell 2
            have r6 := k4.cell 6
            have s6 := k5.cell 6
            simp only [List.getElem?_cons_zero, List.getElem?_cons_succ] at r2 r6 s6
            by_cases hkl : k < flt.length
            · have hb4 := bthen HB.out hB
              obtain ⟨gf, rfl, hgl, hc⟩ := HF.out wr hb4 (by omega)
              have q := hc k hkl
              obtain ⟨f, hff⟩ : ∃ f, flt[k]? = some f := ⟨_, List.getElem?_eq_getElem hkl⟩
              have hgd : flt.getD k [] = f := by rw [List.getD_eq_getElem?_getD, hff]; rfl
              rw [hgd] at q
              have HS := Lib.hid (contains_snoc flt k f nm hff)
              have hne : flt.isEmpty = false := by
                cases flt with
                | nil => simp at hkl
                | cons _ _ => rfl
              have hse := str_eq f nm
              generalize (flt.take k).contains nm = ck at *
              have HNe := Lib.hid hne
              rw [hne, Bool.false_or]
              have HHB := Lib.hid hB
              clear hc hff hgd hb4 k4 k5 hne
              cases ck
              · go_wp2_with fail
                go_quiet (fail)
                have hl1 := HL.out
                go_wp2_with fail
                go_roundw
                case rel => exact ⟨k + 1, by omega, by go_num, by rw [HNe.out, HS.out]; first | exact nvF f nm | exact nvT f nm, Below.drewN HHB.out nq⟩
                case measure => simp [intOf]; omega
              · go_wp2_with fail
                go_quiet (fail)
                have hl1 := HL.out
                go_wp2_with fail
                go_roundw
                case rel => exact ⟨k + 1, by omega, by go_num, by rw [HNe.out, HS.out]; first | exact nvF f nm | exact nvT f nm, Below.drewN HHB.out nq⟩
                case measure => simp [intOf]; omega
            · obtain rfl : k = flt.length := by omega
              rw [List.take_length]
              have hb4 := bthen HB.out hB
              clear k4 k5
              generalize hfb : (flt.isEmpty || flt.contains nm) = fb at *
              have HFb := Lib.hid hfb
              clear hfb
              cases at'
              · go_wp2_with fail
                go_ret
                exact ⟨rfl, hb4⟩
              · go_wp2_with fail
                go_ret
                refine ⟨?_, hb4⟩
                rw [Bool.true_and, HFb.out]
                rfl
        · go_enter Tryz.func46, Tryz.ntmps46
          go_wp2_with fail
          refine (HC.out _ HX.out).mono ?_
          rintro e w2 ⟨rfl, hb2⟩
          have hc0 := (bcell hb2).1
          have hb3 := HX.out.trans (hb2.mono HX.out.size)
          go_wp2_with fail
          go_ret
          exact ⟨rfl, hb3⟩
end Go.Proofs.YtfdofkokiaapoaaGreatDoor.W
end
section
/- noted, of the law: what an observer with these watches is told of records. -/
namespace Go.Proofs.YtfdofkokiaapoaaGreatDoor.W
open Go.RowKit
set_option linter.unusedVariables false
set_option linter.unusedSimpArgs false

def NtdR (w : World) (c : Wb → Rc → Bool) (ws : List Wt) (rs : List Rc) (ov iv : Value) (wr : World) : Prop :=
  ∃ m : Nat, m ≤ rs.length ∧ iv = .int .i64 (m : Int) ∧ All w.heap.size w [rl ov (toldL c (ws.map Wt.bare) (rs.take m))] wr
theorem told_take {c : Wb → Rc → Bool} {ws : List Wb} {rs : List Rc} {m : Nat} {r : Rc} (h : rs[m]? = some r) : toldL c ws (rs.take (m + 1)) = toldL c ws (rs.take m) ++ toldR c ws r := by
  rw [List.take_add_one, h]
  exact toldL_snoc c ws _ r

set_option maxRecDepth 100000 in
set_option maxHeartbeats 16000000 in
theorem noted_any {w : World} {R : Nat} {S : Tr} {sv fv wv v : Value} {N : Nat} {K : Nat → List Nat} {d : Nat → Nat} {ws : List Wt} {rs : List Rc} {fs : List Fl} (hD : Dc S K d N) (hT : TAt 0 R S sv fv w) (hw : Own w 58 7 wv ws.length (rows encW ws)) (hf : (fo fs).P w) (hin : FIn fs ws)
    (htg : rs ≠ [] → ∀ x ∈ ws, ∃ i, i ≤ N ∧ x.target = S.hd i) (hfl : ∀ x ∈ ws, x.flt.length ≤ 100000) (hv : Own w 86 11 v rs.length (rows encR rs)) (hgood : ∀ r ∈ rs, Good S N r) (hl1 : rs.length ≤ 1000) (hl2 : ws.length ≤ 1000) :
    Calls Tryz.prog 17 #[.pointer (some ⟨R, 0, none⟩), wv, v] w fun e w' => ∃ v', e = .returned v' ∧ All w.heap.size w [rl v' (toldL (covB S d N) (ws.map Wt.bare) rs)] w' := by
  obtain ⟨wa, wc, rfl⟩ := own_shape hw
  obtain ⟨va, vc, rfl⟩ := own_shape hv
  have HD := Lib.hid hD
  have HT := Lib.hid hT
  have HW := Lib.hid hw
  have HF := Lib.hid hf
  have HIn := Lib.hid hin
  have HTg := Lib.hid htg
  have HFl := Lib.hid hfl
  have HV := Lib.hid hv
  have HG := Lib.hid hgood
  have HA0 := Lib.hid ((All.start w).nil 86 11)
  clear hD hT hw hf hin htg hfl hv hgood
  go_enter Tryz.func17, Tryz.ntmps17
  go_wp2_with fail
  go_loopw [7, 15] (fun ov iv wr => NtdR w (covB S d N) ws rs ov iv wr) (fun _ iv _ => rs.length - (intOf iv).toNat)
  case atStart => exact ⟨0, Nat.zero_le _, rfl, HA0.out⟩
  case round =>
    obtain ⟨m, hm, rfl, hA⟩ := hrel
    by_cases hml : m < rs.length
    · have ho : Own _ _ _ _ _ _ := hA.head
      obtain ⟨oa, oc, rfl⟩ := own_shape ho
      have HA := Lib.hid hA
      have HB := Lib.hid hA.below
      clear ho hA
      obtain ⟨r, hr⟩ : ∃ r, rs[m]? = some r := ⟨_, List.getElem?_eq_getElem hml⟩
      have hO := own_below HV.out HB.out
      obtain ⟨vg, vc', he, _⟩ := own_some hO (by omega)
      simp only [Value.slice.injEq] at he
      obtain ⟨rfl, _, rfl⟩ := he
      have HQ := Lib.hid (fun (wx : World) (hb : Below wr.heap.size wr wx) (j : Nat) (hj : j < 11) => (show wx.cell? ⟨vg, m * 11 + j, none⟩ = (encR r)[j]? from by
        rw [(own_below hO hb).cellAt (m * 11 + j) (by omega)]
        exact rows_at (enc := encR) encR_len rs m r hr j hj))
      have HGr := Lib.hid (HG.out r (List.mem_of_getElem? hr))
      have HTr := Lib.hid (HTg.out (by rintro rfl; simp at hml))
      have HTk := Lib.hid (told_take (c := covB S d N) (ws := ws.map Wt.bare) hr)
      have htl := toldL_len (covB S d N) (ws.map Wt.bare) (rs.take m)
      have htl2 : (rs.take m).length ≤ m := by simp; omega
      generalize toldL (covB S d N) (ws.map Wt.bare) (rs.take m) = D at *
      have hDl : D.length ≤ 1000 := by omega
      clear hr hO htl htl2
      go_wp2_with fail
      go_loopw [9, 10, 20] (fun cv ov iv wr3 => Ng3 (covB S d N) ws r wr cv ov iv wr3) (fun _ _ iv _ => ws.length - (intOf iv).toNat)
      case atStart => exact ⟨0, Nat.zero_le _, rfl, rfl, rfl, Below.refl _ _⟩
      case round =>
        obtain ⟨j, hj, rfl, rfl, rfl, hB⟩ := hrel
        by_cases hjl : j < ws.length
        · obtain ⟨x, hx⟩ : ∃ x, ws[j]? = some x := ⟨_, List.getElem?_eq_getElem hjl⟩
          have hxm := List.mem_of_getElem? hx
          have hO := own_below HW.out (bthen HB.out hB)
          obtain ⟨wg, wc', he, _⟩ := own_some hO (by omega)
          simp only [Value.slice.injEq] at he
          obtain ⟨rfl, _, rfl⟩ := he
          have hfx := HF.out _ (HIn.out x hxm)
          obtain ⟨fa, fc, hfv⟩ := own_shape hfx
          have hq : ∀ (wx : World) (hb : Below wr.heap.size wr wx) j', j' < 7 → wx.cell? ⟨wg, j * 7 + j', none⟩ = (encW x)[j']? := fun wx hb j' hj' => by
            rw [(own_below hO hb).cellAt (j * 7 + j') (by omega)]
            exact rows_at (enc := encW) encW_len ws j x hx j' hj'
          have HQ2 := Lib.hid hq
          have q0 := hq wr (Below.refl _ _) 0 (by omega)
          have q1 := hq wr (Below.refl _ _) 1 (by omega)
          have q2 := hq wr (Below.refl _ _) 2 (by omega)
          have q3 := hq wr (Below.refl _ _) 3 (by omega)
          have q4 := hq wr (Below.refl _ _) 4 (by omega)
          have q5 := hq wr (Below.refl _ _) 5 (by omega)
          have q6 := hq wr (Below.refl _ _) 6 (by omega)
          simp only [encW, hfv, List.getElem?_cons_zero, List.getElem?_cons_succ, Nat.add_zero] at q0 q1 q2 q3 q4 q5 q6
          have p0 := HQ.out wr hB 0 (by omega)
          have p1 := HQ.out wr hB 1 (by omega)
          have p2 := HQ.out wr hB 2 (by omega)
          have p3 := HQ.out wr hB 3 (by omega)
          have p4 := HQ.out wr hB 4 (by omega)
          have p5 := HQ.out wr hB 5 (by omega)
          have p6 := HQ.out wr hB 6 (by omega)
          have p7 := HQ.out wr hB 7 (by omega)
          have p8 := HQ.out wr hB 8 (by omega)
          have p9 := HQ.out wr hB 9 (by omega)
          have p10 := HQ.out wr hB 10 (by omega)
          simp only [encR, recC, strV, List.getElem?_cons_zero, List.getElem?_cons_succ, Nat.add_zero] at p0 p1 p2 p3 p4 p5 p6 p7 p8 p9 p10
          have HCf := Lib.hid (fun (wx : World) (hb : Below w.heap.size w wx) => covers_law HD.out (HT.out.below hb) x (HTr.out x hxm) r HGr.out (own_below hfx hb) (HFl.out x hxm))
          simp only [encR, recC, strV, encW, hfv] at HCf
          have HX1 := Lib.hid (any_take ws j x (fun x => covB S d N x.bare r) hx)
          have HX2 := Lib.hid (any_take ws j x (fun x => covB S d N x.bare r && x.old) hx)
          generalize covB S d N x.bare r = cc at *
          generalize ((ws.take j).any fun x => covB S d N x.bare r) = cv at *
          generalize ((ws.take j).any fun x => covB S d N x.bare r && x.old) = ov at *
          have HBw := Lib.hid (bthen HB.out hB)
          have HBr := Lib.hid hB
          have hjl2 : (j : Int) < (ws.length : Int) := by omega
          have hml2 : (m : Int) < (rs.length : Int) := by omega
          clear hO hx hxm hq hfx hB
          go_upto_region 9 with fail
          go_region_law (go_simp; go_at_call 46; refine (HCf.out _ (bthen HBw.out (Below.refl _ _).drew)).mono ?_; rintro e w5 ⟨rfl, hb5⟩; have HB5 := Lib.hid (bthen (Below.refl _ _).drew hb5); clear hb5)
          all_goals
            cases cc
            · go_wp2_with fail
              exact ⟨⟨j + 1, by omega, by go_num, by rw [HX1.out]; simp, by rw [HX2.out]; simp, bthen HBr.out HB5.out⟩, by simp [intOf]; omega⟩
            · have k5 := HQ2.out w5 HB5.out 5 (by omega)
              simp only [encW, List.getElem?_cons_zero, List.getElem?_cons_succ] at k5
              cases ov
              · go_wp2_with fail
                exact ⟨⟨j + 1, by omega, by go_num, by rw [HX1.out]; simp, by rw [HX2.out]; simp, bthen HBr.out HB5.out⟩, by simp [intOf]; omega⟩
              · go_wp2_with fail
                exact ⟨⟨j + 1, by omega, by go_num, by rw [HX1.out]; simp, by rw [HX2.out]; simp, bthen HBr.out HB5.out⟩, by simp [intOf]; omega⟩
        · obtain rfl : j = ws.length := by omega
          rw [List.take_length]
          have p0 := HQ.out wr hB 0 (by omega)
          have p1 := HQ.out wr hB 1 (by omega)
          have p2 := HQ.out wr hB 2 (by omega)
          have p3 := HQ.out wr hB 3 (by omega)
          have p4 := HQ.out wr hB 4 (by omega)
          have p5 := HQ.out wr hB 5 (by omega)
          have p6 := HQ.out wr hB 6 (by omega)
          have p7 := HQ.out wr hB 7 (by omega)
          have p8 := HQ.out wr hB 8 (by omega)
          have p9 := HQ.out wr hB 9 (by omega)
          have p10 := HQ.out wr hB 10 (by omega)
          simp only [encR, recC, strV, List.getElem?_cons_zero, List.getElem?_cons_succ, Nat.add_zero] at p0 p1 p2 p3 p4 p5 p6 p7 p8 p9 p10
          generalize hcv : (ws.any fun x => covB S d N x.bare r) = cv at *
          generalize hov : (ws.any fun x => covB S d N x.bare r && x.old) = ov at *
          have HCv := Lib.hid hcv
          have HOv := Lib.hid hov
          have hml2 : (m : Int) < (rs.length : Int) := by omega
          clear hcv hov
          cases cv
          · have HBl := Lib.hid (bthen hB ((Below.refl _ _).alloc (Nat.le_refl _) (.cells #[.int .i64 r.kind, .int .i64 r.target, .int .i64 r.node, .int .i64 r.prev, .int .i64 r.next, .int .i64 r.index, .string ⟨r.name.toArray⟩, .string ⟨r.old.toArray⟩, .bool r.had, .int .i64 r.count, .int .i64 r.size] 86)))
            have HBl2 := Lib.hid (bthen hB ((Below.refl _ _).alloc (Nat.le_refl _) (.cells #[.int .i64 r.kind, .int .i64 r.target, .int .i64 r.node, .int .i64 r.prev, .int .i64 r.next, .int .i64 r.index, .string ⟨r.name.toArray⟩, .string ⟨([] : List UInt8).toArray⟩, .bool r.had, .int .i64 r.count, .int .i64 r.size] 86)))
            clear hB
            cases ov
            · go_wp2_with fail
              exact ⟨⟨m + 1, by omega, by go_num, by rw [HTk.out, told_no HCv.out, List.append_nil]; exact HA.out.still HBl2.out⟩, by simp [intOf]; omega⟩
            · go_wp2_with fail
              exact ⟨⟨m + 1, by omega, by go_num, by rw [HTk.out, told_no HCv.out, List.append_nil]; exact HA.out.still HBl.out⟩, by simp [intOf]; omega⟩
          · cases ov
            · have hA6 := (HA.out.still hB).newBkA wr.heap.size rfl [.int .i64 r.kind, .int .i64 r.target, .int .i64 r.node, .int .i64 r.prev, .int .i64 r.next, .int .i64 r.index, .string ⟨r.name.toArray⟩, .string ⟨([] : List UInt8).toArray⟩, .bool r.had, .int .i64 r.count, .int .i64 r.size] 86
              have HA6 := Lib.hid hA6
              clear hB
              go_upto_region 16 with fail
              clear p0 p1 p2 p3 p4 p5 p6 p7 p8 p9 p10
              generalize hr14 : wr.heap.size = r14 at *
              have HA7 := Lib.hid HA6.out
              clear HA6
              generalize wr.alloc (.cells #[.int .i64 r.kind, .int .i64 r.target, .int .i64 r.node, .int .i64 r.prev, .int .i64 r.next, .int .i64 r.index, .string ⟨r.name.toArray⟩, .string ⟨([] : List UInt8).toArray⟩, .bool r.had, .int .i64 r.count, .int .i64 r.size] 86) = w6 at *
              have k14 : Blk w6 r14 [.int .i64 r.kind, .int .i64 r.target, .int .i64 r.node, .int .i64 r.prev, .int .i64 r.next, .int .i64 r.index, .string ⟨r.name.toArray⟩, .string ⟨([] : List UInt8).toArray⟩, .bool r.had, .int .i64 r.count, .int .i64 r.size] 86 := HA7.out.head
              have p0 := k14.cell 0
              have p1 := k14.cell 1
              have p2 := k14.cell 2
              have p3 := k14.cell 3
              have p4 := k14.cell 4
              have p5 := k14.cell 5
              have p6 := k14.cell 6
              have p7 := k14.cell 7
              have p8 := k14.cell 8
              have p9 := k14.cell 9
              have p10 := k14.cell 10
              simp only [List.getElem?_cons_zero, List.getElem?_cons_succ] at p0 p1 p2 p3 p4 p5 p6 p7 p8 p9 p10
              have H9 := Lib.hid (show All w.heap.size w ([] ++ sl 86 11 (.slice oa D.length oc) D.length (rows encR D) :: []) _ from HA7.out.tail.alloc (.cells #[.int .i64 r.kind, .int .i64 r.target, .int .i64 r.node, .int .i64 r.prev, .int .i64 r.next, .int .i64 r.index, .string ⟨r.name.toArray⟩, .string ⟨([] : List UInt8).toArray⟩, .bool r.had, .int .i64 r.count, .int .i64 r.size] 86))
              have T3 := Lib.hid (encR_one ({ r with old := [] } : Rc))
              simp only [encR, recC, strV] at T3
              clear k14 HA7
              go_wp2_with (at_builtin; refine wpList_append_all etR [] H9.out (own_at (n := 1) (size := 11) (Blk.new w6 [.int .i64 r.kind, .int .i64 r.target, .int .i64 r.node, .int .i64 r.prev, .int .i64 r.next, .int .i64 r.index, .string ⟨r.name.toArray⟩, .string ⟨([] : List UInt8).toArray⟩, .bool r.had, .int .i64 r.count, .int .i64 r.size] 86) rfl (by omega)) T3.out (by omega) (by omega) rfl _ _ rfl rfl rfl ?_; intro v' w7 hA8; have HB8 := Lib.hid hA8; clear hA8)
              refine ⟨⟨m + 1, by omega, by go_num, ?_⟩, by simp [intOf]; omega⟩
              rw [HTk.out, told_yes HCv.out HOv.out]
              have e1 : rows encR (D ++ [({ r with old := [] } : Rc)]) = rows encR D ++ [.int .i64 r.kind, .int .i64 r.target, .int .i64 r.node, .int .i64 r.prev, .int .i64 r.next, .int .i64 r.index, .string ⟨r.name.toArray⟩, .string ⟨([] : List UInt8).toArray⟩, .bool r.had, .int .i64 r.count, .int .i64 r.size] := rows_snoc _ _
              have e2 : (D ++ [({ r with old := [] } : Rc)]).length = D.length + 1 := by simp
              have h9 := HB8.out
              rw [← e1, ← e2] at h9
              exact h9
            · have hA6 := (HA.out.still hB).newBkA wr.heap.size rfl [.int .i64 r.kind, .int .i64 r.target, .int .i64 r.node, .int .i64 r.prev, .int .i64 r.next, .int .i64 r.index, .string ⟨r.name.toArray⟩, .string ⟨r.old.toArray⟩, .bool r.had, .int .i64 r.count, .int .i64 r.size] 86
              have HA6 := Lib.hid hA6
              clear hB
              go_upto_region 16 with fail
              clear p0 p1 p2 p3 p4 p5 p6 p7 p8 p9 p10
              generalize hr14 : wr.heap.size = r14 at *
              have HA7 := Lib.hid HA6.out
              clear HA6
              generalize wr.alloc (.cells #[.int .i64 r.kind, .int .i64 r.target, .int .i64 r.node, .int .i64 r.prev, .int .i64 r.next, .int .i64 r.index, .string ⟨r.name.toArray⟩, .string ⟨r.old.toArray⟩, .bool r.had, .int .i64 r.count, .int .i64 r.size] 86) = w6 at *
              have k14 : Blk w6 r14 [.int .i64 r.kind, .int .i64 r.target, .int .i64 r.node, .int .i64 r.prev, .int .i64 r.next, .int .i64 r.index, .string ⟨r.name.toArray⟩, .string ⟨r.old.toArray⟩, .bool r.had, .int .i64 r.count, .int .i64 r.size] 86 := HA7.out.head
              have p0 := k14.cell 0
              have p1 := k14.cell 1
              have p2 := k14.cell 2
              have p3 := k14.cell 3
              have p4 := k14.cell 4
              have p5 := k14.cell 5
              have p6 := k14.cell 6
              have p7 := k14.cell 7
              have p8 := k14.cell 8
              have p9 := k14.cell 9
              have p10 := k14.cell 10
              simp only [List.getElem?_cons_zero, List.getElem?_cons_succ] at p0 p1 p2 p3 p4 p5 p6 p7 p8 p9 p10
              have H9 := Lib.hid (show All w.heap.size w ([] ++ sl 86 11 (.slice oa D.length oc) D.length (rows encR D) :: []) _ from HA7.out.tail.alloc (.cells #[.int .i64 r.kind, .int .i64 r.target, .int .i64 r.node, .int .i64 r.prev, .int .i64 r.next, .int .i64 r.index, .string ⟨r.name.toArray⟩, .string ⟨r.old.toArray⟩, .bool r.had, .int .i64 r.count, .int .i64 r.size] 86))
              have T3 := Lib.hid (encR_one r)
              simp only [encR, recC, strV] at T3
              clear k14 HA7
              go_wp2_with (at_builtin; refine wpList_append_all etR [] H9.out (own_at (n := 1) (size := 11) (Blk.new w6 [.int .i64 r.kind, .int .i64 r.target, .int .i64 r.node, .int .i64 r.prev, .int .i64 r.next, .int .i64 r.index, .string ⟨r.name.toArray⟩, .string ⟨r.old.toArray⟩, .bool r.had, .int .i64 r.count, .int .i64 r.size] 86) rfl (by omega)) T3.out (by omega) (by omega) rfl _ _ rfl rfl rfl ?_; intro v' w7 hA8; have HB8 := Lib.hid hA8; clear hA8)
              refine ⟨⟨m + 1, by omega, by go_num, ?_⟩, by simp [intOf]; omega⟩
              rw [HTk.out, told_yes HCv.out HOv.out]
              have e1 : rows encR (D ++ [r]) = rows encR D ++ [.int .i64 r.kind, .int .i64 r.target, .int .i64 r.node, .int .i64 r.prev, .int .i64 r.next, .int .i64 r.index, .string ⟨r.name.toArray⟩, .string ⟨r.old.toArray⟩, .bool r.had, .int .i64 r.count, .int .i64 r.size] := rows_snoc _ _
              have e2 : (D ++ [r]).length = D.length + 1 := by simp
              have h9 := HB8.out
              rw [← e1, ← e2] at h9
              exact h9
    · obtain rfl : m = rs.length := by omega
      rw [List.take_length] at hA
      have ho : Own _ _ _ _ _ _ := hA.head
      obtain ⟨oa, oc, rfl⟩ := own_shape ho
      have HA := Lib.hid hA
      clear ho hA
      go_wp2_with fail
      go_ret
      exact ⟨_, rfl, HA.out⟩
end Go.Proofs.YtfdofkokiaapoaaGreatDoor.W
end
