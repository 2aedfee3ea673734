/- ObserveSteady, the walk: for any triples of bytes the law returns true and changes nothing. -/
import Derived.Test.YtfdofkokiaapoaaObsG
namespace Go.Proofs.Ytfdofkokiaapoaa.W
open Go.RowKit
set_option linter.unusedVariables false

theorem meas_full (L : List Sz) (z : Zr) : z.meas L z.sz.length = { z with sz := z.sz.map (nowOf L), en := z.sz.foldl (stepE L) z.en } := by simp [Zr.meas]
theorem next_one (z : Zr) (a b : Value) (h : z.id ≠ 0) : nextOf [(z, a, b)] = if 0 < z.en.length then z.id else 0 := by simp [nextOf, nextStep]
/-- Measure, of one observer -/
theorem measure_one {B : Nat} {w0 w : World} {g zg zc : Nat} {nx : Int} {z : Zr} {a b : Value} {l : List Ob} {lv : Value} {L : List Sz} (h : All B w0 (stL g (.slice (some ⟨zg, 0, none⟩) 1 zc) nx [(z, a, b)] ++ l) w) (hL : zl lv L ∈ l) (hLl : L.length ≤ 1000000)
    (h1 : z.sz.length ≤ 100000) (h2 : z.en.length ≤ 100000) :
    Calls Try.prog 8 #[.pointer (some ⟨g, 0, none⟩), lv] w fun e w' => ∃ a' b', e = .returned (.tuple #[]) ∧ All B w0 (stL g (.slice (some ⟨zg, 0, none⟩) 1 zc) nx [({ z with sz := z.sz.map (nowOf L), en := z.sz.foldl (stepE L) z.en }, a', b')] ++ l) w' := by
  refine (measure_any h rfl (by omega) hL hLl (by simp [h1, h2])).mono ?_
  rintro e w' ⟨zs', rfl, hm, hA⟩
  obtain ⟨a', b', rfl⟩ := map_one (z := { z with sz := z.sz.map (nowOf L), en := z.sz.foldl (stepE L) z.en }) (hm.trans (by simp [Zr.meas]))
  exact ⟨a', b', rfl, hA⟩
/-- Deliver, of one observer -/
theorem deliver_one {B : Nat} {w0 w : World} {g zg zc : Nat} {nx : Int} {z : Zr} {a b : Value} {l : List Ob} (h : All B w0 (stL g (.slice (some ⟨zg, 0, none⟩) 1 zc) nx [(z, a, b)] ++ l) w) (hid : z.id ≠ 0) (h2 : z.en.length ≤ 100000) :
    Calls Try.prog 10 #[.pointer (some ⟨g, 0, none⟩)] w fun e w' => ∃ (i1 i2 : Int) (bd b' : Value), e = .returned (.tuple #[.agg #[.int .i64 i1, .int .i64 i2, .slice none 0 0, bd], .bool (decide (0 < z.en.length))]) ∧ All B w0 (stL g (.slice (some ⟨zg, 0, none⟩) 1 zc) nx [({ z with en := [] }, a, b')] ++ (zl bd z.en :: l)) w' := by
  by_cases hn : 0 < z.en.length
  · refine (deliver_some (z1 := []) (z2 := []) h (by simp) (by simp) (by simp; omega) (by simp only [List.nil_append]; rw [next_one _ _ _ hid, if_pos hn])).mono ?_
    rintro e w' ⟨rfl, hA⟩
    exact ⟨z.id, z.cb, b, _, by simp [hn], hA⟩
  · refine (deliver_none h (by simpa using hid) (by simp) (by simp; omega) (by rw [next_one _ _ _ hid, if_neg hn])).mono ?_
    rintro e w' ⟨rfl, hb⟩
    have he : z.en = [] := List.length_eq_zero_iff.1 (by omega)
    refine ⟨0, 0, .slice none 0 0, b, by simp [hn], ?_⟩
    have h3 := ((h.still hb).nil 41 3).perm List.perm_middle.symm
    have e2 : ({ z with en := [] } : Zr) = z := by cases z; simp at he; subst he; rfl
    rw [e2, he]
    exact h3
theorem pending_one {B : Nat} {w0 w : World} {g zg zc : Nat} {nx : Int} {z : Zr} {a b : Value} {l : List Ob} (h : All B w0 (stL g (.slice (some ⟨zg, 0, none⟩) 1 zc) nx [(z, a, b)] ++ l) w) (hid : z.id ≠ 0) (he : z.en = []) :
    Calls Try.prog 11 #[.pointer (some ⟨g, 0, none⟩)] w fun e w' => e = .returned (.bool false) ∧ Below w.heap.size w w' := by
  have := pending_any h (by simp) (by simp [he])
  rw [next_one _ _ _ hid, he] at this
  exact this

/-- the nodes that are observed -/
def obsStep (acc : List Sz) (y : Sz) : List Sz := if placeOf acc y.1 = -1 then acc ++ [(y.1, -1, -1)] else acc
def obsOf (l : List Sz) : List Sz := l.foldl obsStep []
theorem obsOf_succ (l : List Sz) (k : Nat) (y : Sz) (h : l[k]? = some y) : obsOf (l.take (k + 1)) = obsStep (obsOf (l.take k)) y := by
  unfold obsOf
  rw [take_succ_get l k y h]
  simp [List.foldl_append]
theorem obs_inv (l : List Sz) : ∀ acc : List Sz, Nd acc → (∀ x ∈ acc, x.2.1 = -1) → Nd (l.foldl obsStep acc) ∧ (∀ x ∈ l.foldl obsStep acc, x.2.1 = -1) ∧ (l.foldl obsStep acc).length ≤ acc.length + l.length := by
  induction l with
  | nil => intro acc h1 h2; exact ⟨h1, h2, by simp⟩
  | cons y l ih =>
    intro acc h1 h2
    rw [List.foldl_cons]
    have key : Nd (obsStep acc y) ∧ (∀ x ∈ obsStep acc y, x.2.1 = -1) ∧ (obsStep acc y).length ≤ acc.length + 1 := by
      unfold obsStep
      split
      · rename_i hp
        refine ⟨?_, ?_, by simp⟩
        · unfold Nd at *
          rw [List.pairwise_append]
          refine ⟨h1, by simp, fun a ha b hb => ?_⟩
          simp at hb
          subst hb
          rcases place_cases acc y.1 with ⟨_, h3, _⟩ | ⟨i, z, h3, _⟩
          · rw [List.find?_eq_none] at h3
            have := h3 a ha
            simpa using this
          · omega
        · intro x hx
          rcases List.mem_append.1 hx with hx | hx
          · exact h2 x hx
          · simp at hx; subst hx; rfl
      · exact ⟨h1, h2, by omega⟩
    obtain ⟨k1, k2, k3⟩ := key
    obtain ⟨j1, j2, j3⟩ := ih _ k1 k2
    exact ⟨j1, j2, by simp; omega⟩
/-- the records of a run: after each Measure and each Deliver -/
theorem steady_facts {l S : List Sz} (hnn : ∀ y ∈ l, 0 ≤ y.2.1 ∧ 0 ≤ y.2.2) (h1 : Nd S) (h2 : ∀ x ∈ S, x.2.1 = -1) :
    S.foldl (stepE l) [] = S.map (nowOf l) ∧ (∀ x ∈ S.map (nowOf l), nowOf l x = x) ∧ (S.map (nowOf l)).map (nowOf l) = S.map (nowOf l) ∧ (S.map (nowOf l)).foldl (stepE l) [] = [] ∧ ((S.map (nowOf l)).map (nowOf [])).map (nowOf l) = S.map (nowOf l) := by
  have hs : ∀ x ∈ S.map (nowOf l), nowOf l x = x := by
    intro x hx
    obtain ⟨y, _, rfl⟩ := List.mem_map.1 hx
    exact nowOf_idem l y
  refine ⟨?_, hs, ?_, fold_same _ _ hs, ?_⟩
  · have := fold_all (L := l) S [] h1 (fun x hx he => ?_) (by simp)
    · simpa using this
    · have h3 := (nowOf_nonneg hnn x).1
      rw [he, h2 x hx] at h3
      omega
  · have : ∀ T : List Sz, (∀ x ∈ T, nowOf l x = x) → T.map (nowOf l) = T := by
      intro T hT
      conv => rhs; rw [← List.map_id T]
      exact List.map_congr_left fun x hx => hT x hx
    exact this _ hs
  · rw [List.map_map]
    have : ∀ T : List Sz, (∀ x ∈ T, nowOf l x = x) → T.map (nowOf l ∘ nowOf []) = T := by
      intro T hT
      conv => rhs; rw [← List.map_id T]
      refine List.map_congr_left fun x hx => ?_
      show nowOf l (nowOf [] x) = x
      rw [nowOf_congr l (nowOf_node [] x)]
      exact hT x hx
    exact this _ hs
def LpR (B : Nat) (w0 : World) (L : List Ob) (n : Nat) (iv : Value) (wr : World) : Prop := ∃ k : Nat, k ≤ n ∧ iv = .int .i64 (k : Int) ∧ All B w0 L wr
def StR (B : Nat) (w0 : World) (g zg zc : Nat) (l : List Sz) (nv iv : Value) (wr : World) : Prop :=
  ∃ (k : Nat) (a : Value), k ≤ l.length ∧ iv = .int .i64 (k : Int) ∧ nv = .int .i64 ((obsOf (l.take k)).length : Int) ∧ (obsOf (l.take k)).length ≤ k ∧ All B w0 (stL g (.slice (some ⟨zg, 0, none⟩) 1 zc) 1 [(⟨1, 5, obsOf (l.take k), []⟩, a, .slice none 0 0)]) wr

set_option maxRecDepth 100000 in
set_option maxHeartbeats 2000000 in
theorem steady_any (A : Option Addr) (l : List Sz) (c : Nat) (w : World) (h : InT w A l) (hb : Byt l) :
    Calls Try.prog 3 #[.slice A l.length c] w fun e w' => e = .returned (.bool true) ∧ Below w.heap.size w w' := by
  have H := Lib.hid h
  have HB := Lib.hid hb
  clear h hb
  by_cases hn : l.length ≤ 30
  · have hnb : decide ((30 : Int) < (l.length : Int)) = false := by simp; omega
    go_enter Try.func3, Try.ntmps3
    go_wp2_with fail
    refine (awake_any _).mono ?_
    rintro e w1 ⟨rfl, hb1⟩
    have hC := create_any (st_new ((All.start w).still hb1) w1.heap.size rfl) 5 (by omega) (by omega) (by simp)
    obtain ⟨g, hg⟩ : ∃ g, w1.heap.size = g := ⟨_, rfl⟩
    rw [hg] at hC
    have HC := Lib.hid hC
    clear hC hb1
    go_wp2_with fail
    refine HC.out.mono ?_
    rintro e w2 ⟨zv, rfl, hA2⟩
    obtain ⟨zg, zc, rfl⟩ := st_slice hA2
    simp only [List.append_nil] at hA2
    clear HC
    go_wp2_with fail
    go_loopw [5, 24] (fun nv iv wr => StR w.heap.size w g zg zc l nv iv wr) (fun _ iv _ => l.length - (intOf iv).toNat)
    case atStart => exact ⟨0, _, Nat.zero_le _, rfl, rfl, Nat.le_refl _, hA2⟩
    case round =>
      clear hA2 hg
      obtain ⟨k, a, hk, rfl, rfl, hnk, hA⟩ := hrel
      by_cases hkl : k < l.length
      · obtain ⟨⟨y0, y1, y2⟩, hy⟩ : ∃ y, l[k]? = some y := ⟨_, List.getElem?_eq_getElem hkl⟩
        obtain ⟨b, off, rfl, hbl, hc⟩ := (H.out.still hA.below) (by omega)
        obtain ⟨q0, q1, q2⟩ := hc k _ hy
        obtain ⟨⟨b0, b1⟩, ⟨b2, b3⟩, ⟨b4, b5⟩⟩ := HB.out _ (List.mem_of_getElem? hy)
        simp only at b0 b1 b2 b3 b4 b5 q0 q1 q2
        have HS := Lib.hid (obsOf_succ l k _ hy)
        generalize obsOf (l.take k) = S at *
        rcases place_cases S y0 with ⟨p1, _, _⟩ | ⟨i, z, p1, _, _, _, _⟩
        · have HO := Lib.hid (observe_new (z1 := []) (z2 := []) (z := ⟨1, 5, S, []⟩) (l := []) (by simpa using hA) (by simp) (by simp) y0 (by simp; omega) p1)
          have HS2 : Hid (obsOf (l.take (k + 1)) = S ++ [(y0, -1, -1)]) := Lib.hid (by rw [HS.out]; unfold obsStep; rw [if_pos p1])
          clear hA hc hy p1
          go_wp2_with fail
          refine HO.out.mono ?_
          rintro e w3 ⟨a', rfl, hA3⟩
          clear HO
          go_wp2_with fail
          go_roundw
          case rel =>
            refine ⟨k + 1, a', by omega, by go_num, ?_, ?_, ?_⟩
            · rw [HS2.out]; simp
            · rw [HS2.out]; simp; omega
            · rw [HS2.out]; simpa [Zr.watch] using hA3
          case measure => simp [intOf]; omega
        · have HO := Lib.hid (observe_twice (z1 := []) (z2 := []) (z := ⟨1, 5, S, []⟩) (l := []) (by simpa using hA) (by simp) (by simp) y0 (by simp; omega) (by show 0 ≤ placeOf S y0; omega))
          have HS2 : Hid (obsOf (l.take (k + 1)) = S) := Lib.hid (by rw [HS.out]; unfold obsStep; rw [if_neg (by simp only; omega)])
          have HA := Lib.hid hA
          clear hA hc hy p1
          go_wp2_with fail
          refine HO.out.mono ?_
          rintro e w3 ⟨rfl, hb3⟩
          clear HO
          go_wp2_with fail
          go_roundw
          case rel =>
            refine ⟨k + 1, a, by omega, by go_num, ?_, ?_, ?_⟩
            · rw [HS2.out]
            · rw [HS2.out]; omega
            · rw [HS2.out]; exact HA.out.still hb3
          case measure => simp [intOf]; omega
      · obtain rfl : k = l.length := by omega
        rw [List.take_length] at hA hnk ⊢
        obtain ⟨i1, i2, i3⟩ : Nd (obsOf l) ∧ (∀ x ∈ obsOf l, x.2.1 = -1) ∧ (obsOf l).length ≤ ([] : List Sz).length + l.length := obs_inv l [] (by simp [Nd]) (by simp)
        generalize obsOf l = S at *
        obtain ⟨F1, F2, F3, F4, F5⟩ := steady_facts (l := l) (S := S) (fun y hy => ⟨(HB.out y hy).2.1.1, (HB.out y hy).2.2.1⟩) i1 i2
        have HF1 := Lib.hid F1
        have HF2 := Lib.hid F2
        have HF3 := Lib.hid F3
        have HF4 := Lib.hid F4
        have HF5 := Lib.hid F5
        have hSl : (S.map (nowOf l)).length = S.length := by simp
        have HSL := Lib.hid hSl
        clear i1 i2 i3 F1 F2 F3 F4 F5 hSl hkl hk
        generalize hS1 : S.map (nowOf l) = S1 at *
        have HS1 := Lib.hid hS1
        clear hS1
        have HI := Lib.hid (H.out.still hA.below)
        have HA := Lib.hid hA
        clear hA
        go_wp2_with fail
        refine (sizes_any HI.out HB.out (by omega)).mono ?_
        rintro e w3 ⟨v1, rfl, hA3⟩
        have h3 := (HA.out.after hA3).perm List.perm_append_comm
        have HM := Lib.hid (measure_one h3 (List.Mem.head _) (by omega) (by simp; omega) (by simp))
        clear HA hA3 h3 HI
        go_wp2_with fail
        refine HM.out.mono ?_
        rintro e w4 ⟨a4, b4, rfl, hA4⟩
        rw [show (({ id := 1, cb := 5, sz := S, en := [] } : Zr).sz.foldl (stepE l) ({ id := 1, cb := 5, sz := S, en := [] } : Zr).en) = S1 from HF1.out] at hA4
        have HD := Lib.hid (deliver_one hA4 (by simp) (by simp only; rw [HSL.out]; omega))
        clear HM hA4
        go_wp2_with fail
        refine HD.out.mono ?_
        rintro e w5 ⟨j1, j2, bd, b5, rfl, hA5⟩
        have ho : Own _ _ _ _ _ _ := hA5.P (zl bd S1) (by simp)
        obtain ⟨ba, bc, rfl⟩ := own_shape ho
        simp only at hA5 ⊢
        rw [HSL.out] at hA5 ⊢
        have HA5 := Lib.hid ((hA5.sub (List.sublist_append_left _ _)).alloc (.cells #[.int .i64 j1, .int .i64 j2, .slice none 0 0, .slice ba S.length bc] 37))
        have HI := Lib.hid (H.out.still HA5.out.below)
        clear HD hA5 ho
        go_wp2_with fail
        refine (sizes_any HI.out HB.out (by omega)).mono ?_
        rintro e w6 ⟨v6, rfl, hA6⟩
        have h6 := (HA5.out.after hA6).perm List.perm_append_comm
        rw [HS1.out] at h6
        have HM := Lib.hid (measure_one h6 (List.Mem.head _) (by omega) (by simp only; rw [HSL.out]; omega) (by simp))
        clear HA5 hA6 h6 HI
        go_wp2_with fail
        refine HM.out.mono ?_
        rintro e w7 ⟨a7, b7, rfl, hA7⟩
        rw [HF3.out, HF4.out] at hA7
        have HP := Lib.hid (pending_one hA7 (by simp) rfl)
        have HA7 := Lib.hid ((hA7.sub (List.sublist_append_left _ _)))
        clear HM hA7
        go_wp2_with fail
        refine HP.out.mono ?_
        rintro e w8 ⟨rfl, hb8⟩
        have HM := Lib.hid (measure_one (((HA7.out.still hb8).nil 41 3).perm (List.perm_append_comm (l₁ := [_]))) (L := []) (lv := .slice none 0 0) (List.Mem.head _) (by simp) (by simp only; rw [HSL.out]; omega) (by simp))
        clear HP HA7 hb8
        go_wp2_with fail
        refine HM.out.mono ?_
        rintro e w9 ⟨a9, b9, rfl, hA9⟩
        have HE3 := Lib.hid (fold_len [] S1 [])
        have HEN := Lib.hid (steady_end HF2.out)
        generalize hE3 : S1.foldl (stepE []) [] = E3 at *
        generalize hS2 : S1.map (nowOf []) = S2 at *
        have HS2 := Lib.hid hS2
        have hl2 : S2.length = S.length := by rw [← hS2, List.length_map]; exact HSL.out
        have HL2 := Lib.hid hl2
        have HA9 := Lib.hid ((hA9.sub (List.sublist_append_left _ _)))
        have HI := Lib.hid (H.out.still HA9.out.below)
        clear HM hA9 hS2 hl2 hE3
        go_wp2_with fail
        refine (sizes_any HI.out HB.out (by omega)).mono ?_
        rintro e w10 ⟨v10, rfl, hA10⟩
        have h10 := (HA9.out.after hA10).perm List.perm_append_comm
        have hb3 : E3.length ≤ 100 := by have h1 := HE3.out; have h2 := HSL.out; simp at h1; omega
        have HM := Lib.hid (measure_one h10 (List.Mem.head _) (by omega) (by simp only; rw [HL2.out]; omega) (show E3.length ≤ _ by omega))
        clear HA9 hA10 h10 HI
        go_wp2_with fail
        refine HM.out.mono ?_
        rintro e w11 ⟨a11, b11, rfl, hA11⟩
        rw [HF5.out] at hA11
        have HE4 := Lib.hid (fold_len l S2 E3)
        generalize S2.foldl (stepE l) E3 = E4 at *
        have hb4 : E4.length ≤ 200 := by have := HE4.out; have := HL2.out; omega
        have HA11 := Lib.hid ((hA11.sub (List.sublist_append_left _ _)))
        have HM2 := Lib.hid (measure_one ((HA11.out.nil 41 3).perm (List.perm_append_comm (l₁ := [_]))) (L := []) (lv := .slice none 0 0) (List.Mem.head _) (by simp) (by simp only; rw [HSL.out]; omega) (show E4.length ≤ _ by omega))
        clear HM hA11 HA11 hb3
        go_wp2_with fail
        refine HM2.out.mono ?_
        rintro e w12 ⟨a12, b12, rfl, hA12⟩
        have HE5 := Lib.hid (fold_len [] S1 E4)
        generalize S1.foldl (stepE []) E4 = E5 at *
        have hb5 : E5.length ≤ 300 := by have := HE5.out; have := HSL.out; omega
        have HD2 := Lib.hid (deliver_one (l := []) (z := ⟨1, 5, S1.map (nowOf []), E5⟩) (by rw [List.append_nil]; exact hA12.sub (List.sublist_append_left _ _)) (by simp) (show E5.length ≤ 100000 by omega))
        clear HM2 hA12 hb4
        go_wp2_with fail
        refine HD2.out.mono ?_
        rintro e w13 ⟨m1, m2, be, b13, rfl, hA13⟩
        have ho : Own _ _ _ _ _ _ := hA13.P (zl be E5) (by simp)
        obtain ⟨ea, ec, rfl⟩ := own_shape ho
        have HA13 := hA13.newBkA w13.heap.size rfl [.int .i64 m1, .int .i64 m2, .slice none 0 0, .slice ea E5.length ec] 37
        clear HD2 ho hA13
        go_wp2_with fail
        obtain ⟨r9, hr9⟩ : ∃ r, w13.heap.size = r := ⟨_, rfl⟩
        rw [hr9] at HA13 ⊢
        go_loopw [73] (fun iv wr => LpR w.heap.size w (bk r9 [.int .i64 m1, .int .i64 m2, .slice none 0 0, .slice ea E5.length ec] 37 :: (stL g (.slice (some ⟨zg, 0, none⟩) 1 zc) 1 [(⟨1, 5, S1.map (nowOf []), []⟩, a12, b13)] ++ [zl (.slice ea E5.length ec) E5])) E5.length iv wr) (fun iv _ => E5.length - (intOf iv).toNat)
        case atStart => exact ⟨0, Nat.zero_le _, rfl, HA13⟩
        case round =>
          clear HA13 hr9
          obtain ⟨k, hk, rfl, hA⟩ := hrel
          have b9 : Blk _ _ _ _ := hA.head
          have c3 := b9.cell 3
          have c9 := b9.lt
          simp only [List.getElem?_cons_zero, List.getElem?_cons_succ] at c3
          by_cases hkl : k < E5.length
          · obtain ⟨e, he⟩ : ∃ e, E5[k]? = some e := ⟨_, List.getElem?_eq_getElem hkl⟩
            have hz : Own _ _ _ _ _ _ := hA.P (zl (.slice ea E5.length ec) E5) (by simp)
            obtain ⟨eg, ec', hh, ⟨e0, e1, e2⟩, ef, elt⟩ := z_cells hz he
            simp only [Value.slice.injEq, true_and] at hh
            obtain ⟨rfl, rfl⟩ := hh
            obtain ⟨g1, g2, g3⟩ := HEN.out e (List.mem_of_getElem? he)
            have HC := Lib.hid (size_any (c := c) e (H.out.still hA.below) HB.out (by omega))
            have hn1 := nowOf_node l e
            generalize nowOf l e = nw at *
            obtain ⟨n1, n2, n3⟩ := nw
            obtain ⟨e1', e2', e3'⟩ := e
            simp only at g1 g2 hn1 e0 e1 e2
            subst g1 g2 hn1
            have hz' : n2 = 0 → (n3 == 0) = false := fun h => by
              subst h
              simp only [beq_eq_false_iff_ne, ne_eq]
              rintro rfl
              exact g3 rfl
            have HA := Lib.hid hA
            clear hA b9 hz he g3
            by_cases h20 : n2 = 0
            · subst h20
              have h30 := hz' rfl
              clear hz'
              go_wp2_with fail
              refine HC.out.mono ?_
              rintro e w14 ⟨rfl, hb⟩
              have hA14 := HA.out.still hb
              have b9 : Blk _ _ _ _ := hA14.head
              have d3 := b9.cell 3
              have d9 := b9.lt
              obtain ⟨hc, hf⟩ := bcell hb
              simp only [List.getElem?_cons_zero, List.getElem?_cons_succ, encZ] at d3 ⊢
              have HA14 := Lib.hid hA14
              have elt' : eg < w14.heap.size := Nat.lt_of_lt_of_le elt hb.size
              have en1 : eg ≠ w14.heap.size := by omega
              have rn1 : r9 ≠ w14.heap.size := by omega
              clear b9 hA14 HA hb
              go_wp2_with fail
              go_roundw
              case rel => exact ⟨k + 1, by omega, by go_num, HA14.out.alloc _⟩
              case measure => simp [intOf]; omega
            · have h21 : (n2 == 0) = false := by simpa using h20
              clear hz' h20
              go_wp2_with fail
              refine HC.out.mono ?_
              rintro e w14 ⟨rfl, hb⟩
              have hA14 := HA.out.still hb
              have b9 : Blk _ _ _ _ := hA14.head
              have d3 := b9.cell 3
              have d9 := b9.lt
              obtain ⟨hc, hf⟩ := bcell hb
              simp only [List.getElem?_cons_zero, List.getElem?_cons_succ, encZ] at d3 ⊢
              have HA14 := Lib.hid hA14
              have elt' : eg < w14.heap.size := Nat.lt_of_lt_of_le elt hb.size
              have en1 : eg ≠ w14.heap.size := by omega
              have rn1 : r9 ≠ w14.heap.size := by omega
              clear b9 hA14 HA hb
              go_wp2_with fail
              go_roundw
              case rel => exact ⟨k + 1, by omega, by go_num, HA14.out.alloc _⟩
              case measure => simp [intOf]; omega
          · have HA : Hid (All w.heap.size w (stL g (.slice (some ⟨zg, 0, none⟩) 1 zc) 1 [(⟨1, 5, S1.map (nowOf []), []⟩, a12, b13)] ++ [zl (.slice ea E5.length ec) E5]) wr) := Lib.hid hA.tail
            have HP := Lib.hid (pending_one HA.out (by simp) rfl)
            clear hA b9
            go_wp2_with fail
            refine HP.out.mono ?_
            rintro e w14 ⟨rfl, hb⟩
            go_wp2_with fail
            go_ret
            exact ⟨rfl, HA.out.below.trans (hb.mono HA.out.below.size)⟩
  · have hnb : decide ((30 : Int) < (l.length : Int)) = true := by simp; omega
    go_enter Try.func3, Try.ntmps3
    go_wp2_with fail
    refine (awake_any _).mono ?_
    rintro e w1 ⟨rfl, hb1⟩
    go_wp2_with fail
    refine (awake_any _).mono ?_
    rintro e w2 ⟨rfl, hb2⟩
    go_wp2_with fail
    go_ret
    exact ⟨rfl, bthen hb1 hb2⟩
end Go.Proofs.Ytfdofkokiaapoaa.W
