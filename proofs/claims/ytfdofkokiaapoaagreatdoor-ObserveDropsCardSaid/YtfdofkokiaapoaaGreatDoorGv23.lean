/- Texts joined: Rck Nxt Dlv Cln. -/
import Derived.Test.YtfdofkokiaapoaaGreatDoorGv22
import Derived.RegionTactic
import Derived.ChangeAlike
import Derived.Test.YtfdofkokiaapoaaGreatDoorGv14
import Derived.Test.YtfdofkokiaapoaaGreatDoorGv15
import Derived.WalkSpells
section
/- What the law has been told. -/
namespace Go.Proofs.YtfdofkokiaapoaaGreatDoor.W
open Go.RowKit
set_option linter.unusedVariables false
set_option linter.unusedSimpArgs false

/-- what the law has been told -/
abbrev Tu := List Rc × Value
def toR (us : List Tu) : List Ob := us.map fun u => rl u.2 u.1
def tus (us : List Tu) : List Value := us.map fun u => u.2
theorem toR_split (t1 : List Tu) (t : Tu) (t2 : List Tu) : toR (t1 ++ t :: t2) = toR t1 ++ (rl t.2 t.1 :: toR t2) := by simp [toR]
def RcZ (g10 g12 : Nat) (ts : List Tw) (us : List Tu) : List Ob := bk g10 (tws ts) 36 :: bk g12 (tus us) 61 :: (twO ts ++ toR us)
def RcO (g1 zg zc : Nat) (zs : List Oz) (fs : List Fl) (g10 g12 : Nat) (ts : List Tw) (us : List Tu) (R : Nat) (S : Tr) (sv fv lv : Value) (l : List Int) : List Ob :=
  trO R S sv fv :: gl lv l :: (stF g1 (.slice (some ⟨zg, 0, none⟩) 3 zc) 3 zs ++ (fo fs :: RcZ g10 g12 ts us))
def RcK (l : List Int) (f : Nat → Pl4) (pn : Nat) (fs : List Fl) (n i j : Nat) (x : Oz) : Prop := DsK l f pn fs false n i j x ∧ x.1.ws.map Wt.bare = plW l f j pn
def RcR (w : World) (f : Nat → Pl4) (pn n N : Nat) (S : Tr) (g1 zg zc : Nat) (fs : List Fl) (g10 g12 : Nat) (ts : List Tw) (R : Nat) (sv fv lv : Value) (iv : Value) (wr : World) : Prop :=
  ∃ (i : Nat) (S' : Tr) (K' : Nat → List Nat) (d' : Nat → Nat) (zs : List Oz) (us : List Tu), i ≤ n ∧ iv = .int .i64 (i : Int) ∧ zs.length = 3 ∧ us.length = 3 ∧ (∀ (j : Nat) (x : Oz), zs[j]? = some x → RcK (hds S N) f pn fs n i j x) ∧
    (∀ (j : Nat) (x : Oz) (u : Tu), zs[j]? = some x → us[j]? = some u → u.1 = x.1.rs) ∧ Dc S' K' d' N ∧ S'.b = S.b ∧ S'.s = S.s ∧ All w.heap.size w (RcO g1 zg zc zs fs g10 g12 ts us R S' sv fv lv (hds S N)) wr
/-- the inner loop: what is told of the records -/
def RcI (w : World) (c : Wb → Rc → Bool) (P : Nat → List Wb) (us : List Tu) (g1 zg zc : Nat) (zs : List Oz) (fs : List Fl) (g10 g12 : Nat) (ts : List Tw) (R : Nat) (S : Tr) (sv fv v lv : Value) (rs : List Rc) (l : List Int) (iv : Value) (wr : World) : Prop :=
  ∃ (k : Nat) (us' : List Tu), k ≤ 3 ∧ iv = .int .i64 (k : Int) ∧ us'.length = 3 ∧ (∀ (j : Nat) (u u' : Tu), us[j]? = some u → us'[j]? = some u' → u'.1 = u.1 ++ (if j < k then toldL c (P j) rs else [])) ∧
    All w.heap.size w (stF g1 (.slice (some ⟨zg, 0, none⟩) 3 zc) 3 zs ++ (fo fs :: trO R S sv fv :: rl v rs :: (gl lv l :: RcZ g10 g12 ts us'))) wr
/-- the last loop -/
def RcT (w : World) (us : List Tu) (g1 zg zc : Nat) (l : List Ob) (iv : Value) (wr : World) : Prop :=
  ∃ (k : Nat) (zs : List Oz) (l' : List Ob), k ≤ 3 ∧ iv = .int .i64 (k : Int) ∧ zs.length = 3 ∧ (∀ (j : Nat) (x : Oz) (u : Tu), zs[j]? = some x → us[j]? = some u → x.1.id = (j : Int) + 1 ∧ x.1.rs = (if j < k then [] else u.1)) ∧
    All w.heap.size w (stF g1 (.slice (some ⟨zg, 0, none⟩) 3 zc) 3 zs ++ (l' ++ l)) wr
theorem rck_start {l : List Int} {f : Nat → Pl4} {pn : Nat} {fs : List Fl} {n j : Nat} {x : Oz} (h : ObK l f fs pn j x) (hp : pn ≤ 20) : RcK l f pn fs n 0 j x := ⟨dsk_start false h hp, h.2.2.2.1⟩
theorem rck_up {l : List Int} {f : Nat → Pl4} {pn : Nat} {fs : List Fl} {n i : Nat} {zs zs' : List Oz} {c : Wb → Rc → Bool} {rs : List Rc} (h : ∀ (j : Nat) (x : Oz), zs[j]? = some x → RcK l f pn fs n i j x) (he : zs'.map pz = (zs.map pz).map (upL c rs)) (hr : rs.length ≤ 2) :
    ∀ (j : Nat) (x : Oz), zs'[j]? = some x → RcK l f pn fs n (i + 1) j x := fun j x hx => by
  refine ⟨dsk_up (fun j x hx => (h j x hx).1) he hr j x hx (fun h => by cases h), ?_⟩
  obtain ⟨y, hy, e⟩ := up_at he hx
  rw [e]
  exact (h j y hy).2

theorem permR (A T : List Ob) (F b10 b12 x y z t g : Ob) : (x :: y :: z :: b12 :: (A ++ (F :: (b10 :: (T ++ [t, g]))))).Perm (t :: g :: (A ++ (F :: (b10 :: b12 :: (T ++ [x, y, z]))))) := by
  have h1 : ([x, y, z] ++ (([b12] ++ (A ++ [F, b10])) ++ (T ++ [t, g]))).Perm ([x, y, z] ++ (([b12] ++ (A ++ [F, b10])) ++ ([t, g] ++ T))) := List.Perm.append_left _ (List.Perm.append_left _ List.perm_append_comm)
  have h2 : ([x, y, z] ++ (([b12] ++ (A ++ [F, b10])) ++ ([t, g] ++ T))).Perm (([t, g] ++ T) ++ (([b12] ++ (A ++ [F, b10])) ++ [x, y, z])) := perm3 _ _ _
  have h3 : ([t, g] ++ (T ++ (([b12] ++ (A ++ [F, b10])) ++ [x, y, z]))).Perm ([t, g] ++ ((([b12] ++ (A ++ [F, b10]))) ++ (T ++ [x, y, z]))) := List.Perm.append_left _ (List.perm_append_comm_assoc _ _ _)
  have h4 : ([t, g] ++ ([b12] ++ ((A ++ [F, b10]) ++ (T ++ [x, y, z])))).Perm ([t, g] ++ ((A ++ [F, b10]) ++ ([b12] ++ (T ++ [x, y, z])))) := List.Perm.append_left _ (List.perm_append_comm_assoc _ _ _)
  simp only [List.append_assoc, List.cons_append, List.nil_append] at h1 h2 h3 h4 ⊢
  exact h1.trans (h2.trans (h3.trans h4))

theorem tw_of {l : List Int} {f : Nat → Pl4} {k pn : Nat} {L : List Wt} (h : L.map Wt.bare = plW l f k pn) : ∀ x ∈ L, (∃ m, x.target = tgP l m) ∧ x.flt.length ≤ 3 := fun x hx => by
  obtain ⟨m, h1, h2⟩ := plW_tg l f k pn x.bare (by rw [← h]; exact List.mem_map_of_mem hx)
  exact ⟨⟨m, h1⟩, h2⟩
theorem rc_mid {B : Nat} {w0 w : World} {X F T V G : Ob} {A : List Ob} {g10 g12 : Nat} {ts : List Tw} {u1 u2 : List Tu} {U : List Rc} {uv : Value} (h : All B w0 ([X] ++ (A ++ (F :: T :: V :: (G :: RcZ g10 g12 ts (u1 ++ (U, uv) :: u2))))) w) :
    All B w0 ((X :: (A ++ (F :: T :: V :: G :: bk g10 (tws ts) 36 :: bk g12 (tus (u1 ++ (U, uv) :: u2)) 61 :: (twO ts ++ toR u1)))) ++ (rl uv U :: toR u2)) w := by
  unfold RcZ at h
  rw [toR_split] at h
  simpa only [List.append_assoc, List.cons_append, List.nil_append] using h
theorem rc_back {B : Nat} {w0 w : World} {X F T V G : Ob} {A : List Ob} {g10 g12 k : Nat} {ts : List Tw} {u1 u2 : List Tu} {U U2 : List Rc} {uv v2 : Value} (hk : u1.length = k) (h : All B w0 ((X :: (A ++ (F :: T :: V :: G :: bk g10 (tws ts) 36 :: bk g12 (tus (u1 ++ (U, uv) :: u2)) 61 :: (twO ts ++ toR u1)))) ++ (rl v2 U2 :: toR u2)) w) :
    All B w0 (A ++ (F :: T :: V :: (G :: RcZ g10 g12 ts (u1 ++ (U2, v2) :: u2)))) (w.setCell ⟨g12, k, none⟩ v2) := by
  have e : (tus (u1 ++ (U, uv) :: u2)).set k v2 = tus (u1 ++ (U2, v2) :: u2) := by
    subst hk
    unfold tus
    rw [List.map_append, List.map_cons, List.map_append, List.map_cons, List.set_append_right _ _ (by simp)]
    simp
  rw [List.cons_append] at h
  have h1 := h.tail
  have h2 := (show All B w0 ((A ++ [F, T, V, G, bk g10 (tws ts) 36]) ++ bk g12 (tus (u1 ++ (U, uv) :: u2)) 61 :: (twO ts ++ (toR u1 ++ (rl v2 U2 :: toR u2)))) w from by simpa only [List.append_assoc, List.cons_append, List.nil_append] using h1).setBk _ k v2
  rw [e] at h2
  unfold RcZ
  rw [toR_split]
  simpa only [List.append_assoc, List.cons_append, List.nil_append] using h2

end Go.Proofs.YtfdofkokiaapoaaGreatDoor.W
end
section
/- next, where an observer has something to be told; Deliver. -/
namespace Go.Proofs.YtfdofkokiaapoaaGreatDoor.W
open Go.RowKit
set_option linter.unusedVariables false
set_option linter.unusedSimpArgs false

theorem pos_len {α : Type} {l : List α} (h : l ≠ []) : ∃ n : Nat, l.length = n ∧ 0 < n := by
  have := List.length_pos_iff.2 h
  exact ⟨_, rfl, this⟩

set_option maxRecDepth 100000 in
set_option maxHeartbeats 4000000 in
theorem next_first {B : Nat} {w0 w : World} {g zg zc : Nat} {nx : Int} {z1 z2 : List Oz} {z : Ov} {a b : Value} {l : List Ob} (h : All B w0 (stF g (.slice (some ⟨zg, 0, none⟩) (z1 ++ (z, a, b) :: z2).length zc) nx (z1 ++ (z, a, b) :: z2) ++ l) w)
    (h1 : ∀ y ∈ z1, y.1.rs = []) (hz : z.rs ≠ []) (h2 : ∀ y ∈ z2, z.id ≤ y.1.id) (h0 : z.id ≠ 0) (hl : (z1 ++ (z, a, b) :: z2).length ≤ 1000000) :
    Calls Tryz.prog 40 #[.pointer (some ⟨g, 0, none⟩)] w fun e w' => e = .returned (.int .i64 z.id) ∧ Below w.heap.size w w' := by
  have hb : Blk _ _ _ _ := h.head
  have c0 := hb.cell 0
  simp only [List.getElem?_cons_zero] at c0
  have HE := Lib.hid (show ∀ (k : Nat) (x : Oz), (z1 ++ (z, a, b) :: z2)[k]? = some x → (k < z1.length ∧ x.1.rs = []) ∨ (k = z1.length ∧ x = (z, a, b)) ∨ (z1.length < k ∧ z.id ≤ x.1.id) from fun k x hx => by
    by_cases hk : k < z1.length
    · rw [List.getElem?_append_left hk] at hx
      exact .inl ⟨hk, h1 x (List.mem_of_getElem? hx)⟩
    · rcases get_upd (x := (z, a, b)) (x' := (z, a, b)) hx with ⟨e1, e2⟩ | ⟨e1, _⟩
      · exact .inr (.inl ⟨e1, e2⟩)
      · refine .inr (.inr ⟨by omega, ?_⟩)
        rw [List.getElem?_append_right (by omega)] at hx
        obtain ⟨m, hm⟩ : ∃ m, k - z1.length = m + 1 := ⟨k - z1.length - 1, by omega⟩
        rw [hm] at hx
        exact h2 x (List.mem_of_getElem? hx))
  have hz1l : z1.length < (z1 ++ (z, a, b) :: z2).length := by simp
  generalize hzs : z1 ++ (z, a, b) :: z2 = zs at *
  have H := Lib.hid h
  have hzp := pos_len hz
  generalize hNN : zs.length = N at *
  generalize hkk : z1.length = q at *
  have HNN := Lib.hid hNN
  have HZp := Lib.hid hzp
  have H0 := Lib.hid h0
  clear h hb hNN h1 hz h2 hzp hzs hkk h0
  go_enter Tryz.func40, Tryz.ntmps40
  go_wp2_with fail
  go_loopw [3, 13] (fun idv iv wr => ∃ k : Nat, k ≤ N ∧ iv = .int .i64 (k : Int) ∧ idv = .int .i64 (if k ≤ q then 0 else z.id) ∧ Below w.heap.size w wr) (fun _ iv _ => N - (intOf iv).toNat)
  case atStart => exact ⟨0, Nat.zero_le _, rfl, by rw [if_pos (Nat.zero_le _)], Below.refl _ _⟩
  case round =>
    obtain ⟨k, hk, rfl, rfl, hB⟩ := hrel
    by_cases hkl : k < N
    · obtain ⟨⟨x, xa, xb⟩, hx⟩ : ∃ x, zs[k]? = some x := ⟨_, List.getElem?_eq_getElem (by rw [HNN.out]; exact hkl)⟩
      have hcase := HE.out k _ hx
      obtain ⟨y1, y2, rfl, hy1⟩ := split_at hx
      have hH := H.out.still hB
      rw [← HNN.out] at hH
      obtain ⟨⟨q0, q1, q2, q3⟩, _, _, _, _, ha, hb⟩ := om_cellsF hH
      obtain ⟨aa, ac, rfl⟩ := own_shape ha
      obtain ⟨ba, bc, rfl⟩ := own_shape hb
      rw [hy1] at q0 q1 q2 q3
      have HB := Lib.hid hB
      clear ha hb hB hH hx hy1
      rcases hcase with ⟨hc1, hc2⟩ | ⟨rfl, hc2⟩ | ⟨hc1, hc2⟩
      · simp only at hc2
        rw [hc2, List.length_nil] at q3
        clear hc2
        rw [if_pos (by omega)]
        go_wp2_with fail
        go_roundw
        case rel => exact ⟨k + 1, by omega, by go_num, by rw [if_pos (by omega)], HB.out.alloc HB.out.size _⟩
        case measure => simp [intOf]; omega
      · cases hc2
        obtain ⟨n0, hn0, hzp⟩ := HZp.out
        rw [hn0] at q3
        clear hn0
        rw [if_pos (Nat.le_refl _)]
        go_wp2_with fail
        go_roundw
        case rel => exact ⟨k + 1, by omega, by go_num, by rw [if_neg (by omega)], HB.out.alloc HB.out.size _⟩
        case measure => simp [intOf]; omega
      · simp only at hc2
        have e0 : (z.id == 0) = false := by simpa using H0.out
        have e1 : decide (x.id < z.id) = false := by simp; omega
        have HC := Lib.hid hc2
        clear hc2
        rw [if_neg (by omega)]
        by_cases hxr : x.rs = []
        · rw [hxr, List.length_nil] at q3
          clear hxr
          go_wp2_with fail
          go_roundw
          case rel => exact ⟨k + 1, by omega, by go_num, by rw [if_neg (by omega)], HB.out.alloc HB.out.size _⟩
          case measure => simp [intOf]; omega
        · obtain ⟨n0, hn0, hxp⟩ := pos_len hxr
          rw [hn0] at q3
          clear hxr hn0
          go_wp2_with fail
          go_roundw
          case rel => exact ⟨k + 1, by omega, by go_num, by rw [if_neg (by omega)], HB.out.alloc HB.out.size _⟩
          case measure => simp [intOf]; omega
    · have hc := cell1_F (H.out.still hB)
      have HB := Lib.hid hB
      rw [if_neg (by omega)]
      clear hB
      go_wp2_with fail
      go_loopw [3, 39] (fun idv iv wr2 => iv = .int .i64 0 ∧ idv = .int .i64 z.id ∧ wr = wr2) (fun _ _ _ => 0)
      case atStart => exact ⟨rfl, rfl, rfl⟩
      case round =>
        obtain ⟨rfl, rfl, hw⟩ := hrel
        subst hw
        go_wp2_with fail
        go_ret
        exact ⟨rfl, HB.out⟩

theorem pending_yes {B : Nat} {w0 w : World} {g zg zc : Nat} {nx : Int} {z1 z2 : List Oz} {z : Ov} {a b : Value} {l : List Ob} (h : All B w0 (stF g (.slice (some ⟨zg, 0, none⟩) (z1 ++ (z, a, b) :: z2).length zc) nx (z1 ++ (z, a, b) :: z2) ++ l) w)
    (h1 : ∀ y ∈ z1, y.1.rs = []) (hz : z.rs ≠ []) (h2 : ∀ y ∈ z2, z.id ≤ y.1.id) (h0 : z.id ≠ 0) (hl : (z1 ++ (z, a, b) :: z2).length ≤ 1000000) :
    Calls Tryz.prog 12 #[.pointer (some ⟨g, 0, none⟩)] w fun e w' => e = .returned (.bool true) ∧ Below w.heap.size w w' := by
  have H := Lib.hid (next_first h h1 hz h2 h0 hl)
  have e1 : (z.id != 0) = true := by simpa using h0
  clear h h1 hz h2 h0
  go_enter Tryz.func12, Tryz.ntmps12
  go_wp2_with fail
  refine H.out.mono ?_
  rintro e w1 ⟨rfl, hb⟩
  go_wp2_with fail
  go_ret
  exact ⟨rfl, hb⟩
end Go.Proofs.YtfdofkokiaapoaaGreatDoor.W
end
section
/- Deliver. -/
namespace Go.Proofs.YtfdofkokiaapoaaGreatDoor.W
open Go.RowKit
set_option linter.unusedVariables false
set_option linter.unusedSimpArgs false

theorem perm_rr (Y Z : Ob) (P l : List Ob) : (P ++ (Y :: Z :: l)).Perm ((P ++ [Y]) ++ Z :: l) := by simp
theorem sub_rr (Y Z : Ob) (P l : List Ob) : (P ++ (Y :: l)).Sublist ((P ++ [Y]) ++ Z :: l) := by simp
/-- the records of an observer taken -/
theorem stF_take {B : Nat} {w0 w : World} {g zg zc : Nat} {nx : Int} {z1 z2 : List Oz} {z : Ov} {a b : Value} {l : List Ob} (h : All B w0 (stF g (.slice (some ⟨zg, 0, none⟩) (z1 ++ (z, a, b) :: z2).length zc) nx (z1 ++ (z, a, b) :: z2) ++ l) w) :
    All B w0 (stF g (.slice (some ⟨zg, 0, none⟩) (z1 ++ (z, a, b) :: z2).length zc) nx (z1 ++ ({ z with rs := [] }, a, .slice none 0 0) :: z2) ++ (rl b z.rs :: l)) (w.setCell ⟨zg, z1.length * 4 + 3, none⟩ (.slice none 0 0)) := by
  rw [stF_split] at h
  have h1 := (h.nil 86 11)
  exact om_set3F (z := z) (a := a) (b := b) (z' := { z with rs := [] }) (h1.perm (perm_dlM _ _ _ _ _ _)) rfl rfl rfl

set_option maxRecDepth 100000 in
set_option maxHeartbeats 4000000 in
theorem deliver_first {B : Nat} {w0 w : World} {g zg zc : Nat} {nx : Int} {z1 z2 : List Oz} {z : Ov} {a b : Value} {l : List Ob} (h : All B w0 (stF g (.slice (some ⟨zg, 0, none⟩) (z1 ++ (z, a, b) :: z2).length zc) nx (z1 ++ (z, a, b) :: z2) ++ l) w)
    (h1 : ∀ y ∈ z1, y.1.rs = []) (hz : z.rs ≠ []) (h2 : ∀ y ∈ z2, z.id ≤ y.1.id) (h0 : z.id ≠ 0) (hl : (z1 ++ (z, a, b) :: z2).length ≤ 1000000) (hn : ∀ y ∈ z1, y.1.id ≠ z.id) :
    Calls Tryz.prog 13 #[.pointer (some ⟨g, 0, none⟩)] w fun e w' => e = .returned (.tuple #[.agg #[.int .i64 z.id, .int .i64 z.cb, b, .slice none 0 0], .bool true]) ∧
      All B w0 (stF g (.slice (some ⟨zg, 0, none⟩) (z1 ++ (z, a, b) :: z2).length zc) nx (z1 ++ ({ z with rs := [] }, a, .slice none 0 0) :: z2) ++ (rl b z.rs :: l)) w' := by
  have hA := (h.newBkA w.heap.size rfl [.int .i64 0, .int .i64 0, .slice none 0 0, .slice none 0 0] 47).perm List.perm_middle.symm
  obtain ⟨R, hR⟩ : ∃ R, w.heap.size = R := ⟨_, rfl⟩
  have hz2 : Own _ _ _ _ _ _ := (om_cellsF h).2.2.2.2.2.2
  obtain ⟨ba, bc, rfl⟩ := own_shape hz2
  clear hz2
  have HN := Lib.hid (next_first hA h1 hz h2 h0 hl)
  rw [hR] at hA
  have H := Lib.hid hA
  have HNi := Lib.hid hn
  have HL := Lib.hid hl
  clear h hn h1 hz h2 h0 hA hl
  generalize hk : z1.length = k at *
  have HK := Lib.hid hk
  clear hk
  generalize hN : (z1 ++ (z, a, Value.slice ba z.rs.length bc) :: z2).length = N at *
  have HNN := Lib.hid hN
  clear hN
  go_enter Tryz.func13, Tryz.ntmps13
  go_wp2_with fail
  refine HN.out.mono ?_
  rintro e w2 ⟨rfl, hb2⟩
  have hA2 := H.out.still hb2
  have hN := HNN.out
  subst hN
  have HSz := Lib.hid (observer_atF (z := (z, a, .slice ba z.rs.length bc)) hA2 HNi.out HL.out)
  rw [HK.out] at HSz
  obtain ⟨⟨q0, q1, q2, q3⟩, qf, hzlt, c0, c1, hz1, hz2⟩ := om_cellsF hA2
  rw [HK.out] at q0 q1 q2 q3
  have hRb : Blk _ _ _ _ := hA2.P (bk R [.int .i64 0, .int .i64 0, .slice none 0 0, .slice none 0 0] 47) (by simp)
  have r0 := hRb.cell 0
  have r1 := hRb.cell 1
  have r2 := hRb.cell 2
  have r3 := hRb.cell 3
  have rf := hRb.free
  have rl := hRb.lt
  simp only [List.getElem?_cons_zero, List.getElem?_cons_succ] at r0 r1 r2 r3
  have hne : R ≠ zg := (All.sl_ne_bk hA2.tail (cs := [.int .i64 0, .int .i64 0, .slice none 0 0, .slice none 0 0]) (t := 47) (by simp)).symm
  have hne' := hne.symm
  have HA := Lib.hid (stF_take hA2)
  rw [HK.out] at HA
  clear c0 c1 hz1 hz2 hA2 hRb hR hb2 q0 q2
  generalize hN : (z1 ++ (z, a, Value.slice ba z.rs.length bc) :: z2).length = N at *
  have HN2 := Lib.hid hN
  clear hN
  go_wp2_with fail
  refine HSz.out.mono ?_
  rintro e w3 ⟨rfl, hw⟩
  rw [← hw]
  clear hw
  go_wp2_with fail
  go_region
  have hA5 := (((((HA.out.perm (perm_rr _ _ _ _)).setBk (stF _ _ _ _ ++ [_]) 0 (.int .i64 z.id)).setBk (stF _ _ _ _ ++ [_]) 1 (.int .i64 z.cb)).setBk (stF _ _ _ _ ++ [_]) 2 (.slice ba z.rs.length bc)).setBk (stF _ _ _ _ ++ [_]) 3 (.slice none 0 0))
  have HA5 := Lib.hid hA5
  clear hA5
  go_wp2_with fail
  refine bodyPost_ret (v := .tuple #[.agg #[.int .i64 z.id, .int .i64 z.cb, .slice ba z.rs.length bc, .slice none 0 0], .bool true]) (by simp [results, Tryz.results13, go_sem, *]) rfl ⟨rfl, ?_⟩
  rw [HN2.out]
  exact ((HA5.out.alloc _).drew).sub (sub_rr _ _ _ _)

set_option maxRecDepth 100000 in
set_option maxHeartbeats 2000000 in
theorem deliver_none {B : Nat} {w0 w : World} {g zg zc : Nat} {nx : Int} {zs : List Oz} {l : List Ob} (h : All B w0 (stF g (.slice (some ⟨zg, 0, none⟩) zs.length zc) nx zs ++ l) w)
    (hn : ∀ y ∈ zs, y.1.id ≠ 0) (hl : zs.length ≤ 1000000) (hz : ∀ y ∈ zs, y.1.rs = []) :
    Calls Tryz.prog 13 #[.pointer (some ⟨g, 0, none⟩)] w fun e w' => e = .returned (.tuple #[.agg #[.int .i64 0, .int .i64 0, .slice none 0 0, .slice none 0 0], .bool false]) ∧ Below w.heap.size w w' := by
  have hA := (h.newBkA w.heap.size rfl [.int .i64 0, .int .i64 0, .slice none 0 0, .slice none 0 0] 47).perm List.perm_middle.symm
  have HN := Lib.hid (next_zero hA hz hl)
  have HA := Lib.hid hA
  clear h hz hA
  go_enter Tryz.func13, Tryz.ntmps13
  go_wp2_with fail
  refine HN.out.mono ?_
  rintro e w2 ⟨rfl, hb2⟩
  have hA2 := HA.out.still hb2
  have HO := Lib.hid (observer_noF hA2 0 hn hl)
  have HSz := Lib.hid (sizer_noF g w2 0 (cell1_F hA2))
  have hRb : Blk _ _ _ _ := hA2.P (bk w.heap.size [.int .i64 0, .int .i64 0, .slice none 0 0, .slice none 0 0] 47) (by simp)
  have r0 := hRb.cell 0
  have r1 := hRb.cell 1
  have r2 := hRb.cell 2
  have r3 := hRb.cell 3
  have rf := hRb.free
  have rl := hRb.lt
  simp only [List.getElem?_cons_zero, List.getElem?_cons_succ] at r0 r1 r2 r3
  have HB := Lib.hid (bthen ((Below.refl _ _).alloc (Nat.le_refl _) _) hb2)
  clear hA2 hRb hb2
  generalize hR : w.heap.size = R at *
  have HR := Lib.hid hR
  clear hR
  go_wp2_with fail
  refine HO.out.mono ?_
  rintro e w3 ⟨rfl, rfl⟩
  go_wp2_with fail
  refine HSz.out.mono ?_
  rintro e w3 ⟨rfl, rfl⟩
  go_wp2_with fail
  refine bodyPost_ret (v := .tuple #[.agg #[.int .i64 0, .int .i64 0, .slice none 0 0, .slice none 0 0], .bool false]) (by simp [results, Tryz.results13, go_sem, *]) rfl ⟨rfl, ?_⟩
  rw [HR.out]
  exact (((HB.out.setCell (Nat.le_refl _) _).setCell (Nat.le_refl _) _).setCell (Nat.le_refl _) _).setCell (Nat.le_refl _) _
end Go.Proofs.YtfdofkokiaapoaaGreatDoor.W
end
section
/- slices.Clone of observers, records, watches; what they return lies in new memory. -/
namespace Go.Proofs.YtfdofkokiaapoaaGreatDoor.W
open Go.RowKit
set_option linter.unusedVariables false
set_option linter.unusedSimpArgs false

theorem cloneO {w : World} {v : Value} {n : Nat} {xs : List Value} (h : Own w 60 4 v n xs) (h1 : ∀ u ∈ xs, u.oneCell' = true) (hn : n ≤ 1000000) :
    Calls Tryz.prog 34 #[v] w fun e w' => ∃ v', e = .returned v' ∧ All w.heap.size w [sl 60 4 v' n xs] w' := by
  rcases h.2 with ⟨rfl, rfl⟩ | ⟨g, cap, cur, rfl, _⟩
  · have hx : xs = [] := List.length_eq_zero_iff.1 (by rw [h.1])
    subst hx
    clear h
    have hq := fun w a n c n' c' => Lib.run_eql_slice_nil (P := Tryz.prog) w 31 60 a n c n' c' Tryz.underlying31
    go_enter Tryz.func34, Tryz.ntmps34
    go_wp2_with fail
    go_ret
    exact ⟨_, rfl, (All.start w).nil _ _⟩
  · have hA := (All.start w).newSlA w.heap.size rfl 60 4 0 [] rfl (by omega)
    have HS := Lib.hid (own_below h hA.below)
    have HA := Lib.hid hA
    clear h hA
    have hq := fun w a n c n' c' => Lib.run_eql_slice_nil (P := Tryz.prog) w 31 60 a n c n' c' Tryz.underlying31
    go_enter Tryz.func34, Tryz.ntmps34
    go_wp2_with (at_builtin; refine wpList_append_all etO [] HA.out HS.out h1 (by omega) (by omega) rfl _ _ rfl rfl rfl ?_; intro v' w1 hA2; simp only [List.nil_append, Nat.zero_add] at hA2)
    go_ret
    exact ⟨_, rfl, hA2⟩

theorem cloneR {w : World} {v : Value} {n : Nat} {xs : List Value} (h : Own w 86 11 v n xs) (h1 : ∀ u ∈ xs, u.oneCell' = true) (hn : n ≤ 1000000) :
    Calls Tryz.prog 36 #[v] w fun e w' => ∃ v', e = .returned v' ∧ All w.heap.size w [sl 86 11 v' n xs] w' := by
  rcases h.2 with ⟨rfl, rfl⟩ | ⟨g, cap, cur, rfl, _⟩
  · have hx : xs = [] := List.length_eq_zero_iff.1 (by rw [h.1])
    subst hx
    clear h
    have hq := fun w a n c n' c' => Lib.run_eql_slice_nil (P := Tryz.prog) w 40 86 a n c n' c' Tryz.underlying40
    go_enter Tryz.func36, Tryz.ntmps36
    go_wp2_with fail
    go_ret
    exact ⟨_, rfl, (All.start w).nil _ _⟩
  · have hA := (All.start w).newSlA w.heap.size rfl 86 11 0 [] rfl (by omega)
    have HS := Lib.hid (own_below h hA.below)
    have HA := Lib.hid hA
    clear h hA
    have hq := fun w a n c n' c' => Lib.run_eql_slice_nil (P := Tryz.prog) w 40 86 a n c n' c' Tryz.underlying40
    go_enter Tryz.func36, Tryz.ntmps36
    go_wp2_with (at_builtin; refine wpList_append_all etR [] HA.out HS.out h1 (by omega) (by omega) rfl _ _ rfl rfl rfl ?_; intro v' w1 hA2; simp only [List.nil_append, Nat.zero_add] at hA2)
    go_ret
    exact ⟨_, rfl, hA2⟩

theorem cloneW {w : World} {v : Value} {n : Nat} {xs : List Value} (h : Own w 58 7 v n xs) (h1 : ∀ u ∈ xs, u.oneCell' = true) (hn : n ≤ 1000000) :
    Calls Tryz.prog 37 #[v] w fun e w' => ∃ v', e = .returned v' ∧ All w.heap.size w [sl 58 7 v' n xs] w' := by
  rcases h.2 with ⟨rfl, rfl⟩ | ⟨g, cap, cur, rfl, _⟩
  · have hx : xs = [] := List.length_eq_zero_iff.1 (by rw [h.1])
    subst hx
    clear h
    have hq := fun w a n c n' c' => Lib.run_eql_slice_nil (P := Tryz.prog) w 35 58 a n c n' c' Tryz.underlying35
    go_enter Tryz.func37, Tryz.ntmps37
    go_wp2_with fail
    go_ret
    exact ⟨_, rfl, (All.start w).nil _ _⟩
  · have hA := (All.start w).newSlA w.heap.size rfl 58 7 0 [] rfl (by omega)
    have HS := Lib.hid (own_below h hA.below)
    have HA := Lib.hid hA
    clear h hA
    have hq := fun w a n c n' c' => Lib.run_eql_slice_nil (P := Tryz.prog) w 35 58 a n c n' c' Tryz.underlying35
    go_enter Tryz.func37, Tryz.ntmps37
    go_wp2_with (at_builtin; refine wpList_append_all etW [] HA.out HS.out h1 (by omega) (by omega) rfl _ _ rfl rfl rfl ?_; intro v' w1 hA2; simp only [List.nil_append, Nat.zero_add] at hA2)
    go_ret
    exact ⟨_, rfl, hA2⟩

theorem cloneZ (w : World) : Calls Tryz.prog 35 #[.slice none 0 0] w fun e w' => e = .returned (.slice none 0 0) ∧ w = w' := by
  have hq := fun w a n c n' c' => Lib.run_eql_slice_nil (P := Tryz.prog) w 32 96 a n c n' c' Tryz.underlying32
  go_enter Tryz.func35, Tryz.ntmps35
  go_wp2_with fail
  go_ret
  exact ⟨rfl, rfl⟩
theorem own_one {w : World} {e : TypeId} {sz n : Nat} {v : Value} {xs : List Value} (h : Own w e sz v n xs) : v.oneCell' = true := by
  obtain ⟨a, c, rfl⟩ := own_shape h
  rfl
theorem rowsO_one {zs : List Oz} (h : ∀ x ∈ zs, x.2.1.oneCell' = true ∧ x.2.2.oneCell' = true) : ∀ u ∈ rows encO zs, u.oneCell' = true := by
  induction zs with
  | nil => intro u hu; cases hu
  | cons x zs ih =>
    intro u hu
    rw [rows, List.mem_append] at hu
    rcases hu with hu | hu
    · obtain ⟨h1, h2⟩ := h x (List.mem_cons_self ..)
      simp only [encO, List.mem_cons, List.not_mem_nil, or_false] at hu
      rcases hu with rfl | rfl | rfl | rfl
      · rfl
      · rfl
      · exact h1
      · exact h2
    · exact ih (fun y hy => h y (List.mem_cons_of_mem _ hy)) u hu
theorem stF_one {B : Nat} {w0 w : World} {g zg zc : Nat} {nx : Int} {zs : List Oz} {l : List Ob} (h : All B w0 (stF g (.slice (some ⟨zg, 0, none⟩) zs.length zc) nx zs ++ l) w) : ∀ u ∈ rows encO zs, u.oneCell' = true :=
  rowsO_one (fun x hx => by
    obtain ⟨j, hj⟩ := List.mem_iff_getElem?.1 hx
    obtain ⟨z1, z2, rfl, _⟩ := split_at hj
    obtain ⟨x1, x2, x3⟩ := x
    obtain ⟨_, _, _, _, _, ha, hb⟩ := om_cellsF h
    exact ⟨own_one ha, own_one hb⟩)
theorem rowsW_one {ws : List Wt} (h : ∀ x ∈ ws, x.fv.oneCell' = true) : ∀ u ∈ rows encW ws, u.oneCell' = true := by
  induction ws with
  | nil => intro u hu; cases hu
  | cons x ws ih =>
    intro u hu
    rw [rows, List.mem_append] at hu
    rcases hu with hu | hu
    · have h1 := h x (List.mem_cons_self ..)
      simp only [encW, List.mem_cons, List.not_mem_nil, or_false] at hu
      rcases hu with rfl | rfl | rfl | rfl | rfl | rfl | rfl
      · rfl
      · rfl
      · rfl
      · rfl
      · rfl
      · rfl
      · exact h1
    · exact ih (fun y hy => h y (List.mem_cons_of_mem _ hy)) u hu
end Go.Proofs.YtfdofkokiaapoaaGreatDoor.W
end
