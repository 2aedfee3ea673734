/- Texts joined: FcB FcI FcK. -/
import Derived.Test.YtacdbnhnhdlmpaaGreatDoorFF1
set_option maxRecDepth 100000
set_option maxHeartbeats 40000000
set_option linter.unusedVariables false
set_option linter.unusedSimpArgs false
section
namespace Go.Proofs.YtacdbnhnhdlmpaaGreatDoor.W
open Go.RowKit
section
variable {B R Q : Nat} {S : Tr} {sv fv fa : Value} {w w0 : World} {K : Nat → List Nat} {d : Nat → Nat} {X : List FX} {foc : Int} {l : List Ob}
theorem st_focc (h : All B w0 (fsL Q fa foc X ++ l) w) : w.cell? ⟨Q, 1, none⟩ = some (.int .i64 foc) := by
  have := (show Blk w Q [fa, .int .i64 foc] 30 from h.head).cell 1
  simpa using this
set_option maxRecDepth 100000 in
set_option maxHeartbeats 8000000 in
theorem focused_zero (h : All B w0 (fsL Q fa 0 X ++ l) w) :
    Calls Tryz.prog 46 #[.pointer (some ⟨Q, 0, none⟩), .pointer (some ⟨R, 0, none⟩)] w fun e w' => e = .returned (.int .i64 0) ∧ Below w.heap.size w w' := by
  have HQ := Lib.hid (fun wx (hb : Below w.heap.size w wx) => st_focc (h.still hb))
  have q1 := HQ.out w (Below.refl _ _)
  clear h
  go_enter Tryz.func46, Tryz.ntmps46
  go_upto_region 1 with fail
  have hne := stb_ne w
  have x1 := fun (x : InS (StB w)) => HQ.out x.w x.h
  refine reg_f (fun _ _ => True) (fun _ v => v = .bool true) 25 (by kernel_rfl) (by kernel_rfl) (fun _ _ _ _ _ => trivial) trivial ?_
  simp only [List.take_succ_cons, List.take_zero, List.drop_succ_cons, List.drop_zero]
  repeat (first
    | (refine RV.m_held (by rfl) (by rfl) (fun K hK => ?_); go_big_quiet_step (fail); refine wpQuiet_nil ?_; refine hK.out _ ?_; clear hK K)
    | (refine RV.m_skip (by rfl) ?_; simp only [Act.put, List.setIfInBounds_toArray, List.set_cons_zero, List.set_cons_succ]))
  refine RV.m_nil ?_
  intro w6 hb6 _
  have HB6 := Lib.hid hb6
  have q1 := HQ.out _ hb6
  clear hb6 x1 hne
  go_wp2_with fail
  go_ret
  exact ⟨rfl, HB6.out⟩
set_option maxRecDepth 100000 in
set_option maxHeartbeats 8000000 in
theorem focused_gen (c f : Bool) (rt : Int) (h : All B w0 (fsL Q fa foc X ++ l) w) (hf : (foc != 0) = true) (hr : ∀ wx, Below w.heap.size w wx → wx.cell? ⟨R, 5, none⟩ = some (.int .i64 rt))
    (hc : ∀ wx, Below w.heap.size w wx → Calls Tryz.prog 97 #[.pointer (some ⟨R, 0, none⟩), .int .i64 rt, .int .i64 foc] wx fun e w' => e = .returned (.bool c) ∧ Below wx.heap.size wx w')
    (hg : c = true → ∀ wx, Below w.heap.size w wx → Calls Tryz.prog 98 #[.pointer (some ⟨R, 0, none⟩), .int .i64 foc] wx fun e w' => e = .returned (.bool f) ∧ Below wx.heap.size wx w') :
    Calls Tryz.prog 46 #[.pointer (some ⟨Q, 0, none⟩), .pointer (some ⟨R, 0, none⟩)] w fun e w' => e = .returned (.int .i64 (if (c && f) = true then foc else 0)) ∧ Below w.heap.size w w' := by
  have HC := Lib.hid hc
  have HG := Lib.hid hg
  have HQ := Lib.hid (fun wx (hb : Below w.heap.size w wx) => (show wx.cell? ⟨Q, 1, none⟩ = some (.int .i64 foc) ∧ wx.cell? ⟨R, 5, none⟩ = some (.int .i64 rt) from ⟨st_focc (h.still hb), hr wx hb⟩))
  obtain ⟨q1, r5⟩ := HQ.out w (Below.refl _ _)
  obtain ⟨rs, hrs⟩ : ∃ rs, (if (c && f) = true then foc else 0) = rs := ⟨_, rfl⟩
  rw [hrs]
  have HRs := Lib.hid hrs
  clear h hr hc hg hrs
  go_enter Tryz.func46, Tryz.ntmps46
  go_upto_region 1 with fail
  have hne := stb_ne w
  have x1 := fun (x : InS (StB w)) => (HQ.out x.w x.h).1
  have x5 := fun (x : InS (StB w)) => (HQ.out x.w x.h).2
  cases c with
  | false =>
    have HR := Lib.hid (show rs = 0 from by rw [← HRs.out]; simp)
    clear HRs HG
    refine reg_f (fun _ _ => True) (fun _ v => v = .bool false) 25 (by kernel_rfl) (by kernel_rfl) (fun _ _ _ _ _ => trivial) trivial ?_
    simp only [List.take_succ_cons, List.take_zero, List.drop_succ_cons, List.drop_zero]
    repeat (first
      | (refine RV.m_held (by rfl) (by rfl) (fun K hK => ?_); go_big_quiet_step (fail); refine wpQuiet_nil ?_; refine hK.out _ ?_; clear hK K)
      | (refine RV.m_skip (by rfl) ?_; simp only [Act.put, List.setIfInBounds_toArray, List.set_cons_zero, List.set_cons_succ]))
    refine RV.m_call (by rfl) (by rfl) (fun w => by go_simp; exact ⟨rfl, rfl⟩) (⟨_, rfl⟩) (fun X wx hx => ?_) (fun v hv => ?_)
    · refine (HC.out wx hx.1).mono ?_
      rintro e w2 ⟨rfl, hb2⟩
      exact ⟨_, rfl, rfl, bthen hx.1 hb2, trivial⟩
    obtain rfl := hv
    simp only [Act.put, List.setIfInBounds_toArray, List.set_cons_zero, List.set_cons_succ]
    repeat (first
      | (refine RV.m_held (by rfl) (by rfl) (fun K hK => ?_); go_big_quiet_step (fail); refine wpQuiet_nil ?_; refine hK.out _ ?_; clear hK K)
      | (refine RV.m_skip (by rfl) ?_; simp only [Act.put, List.setIfInBounds_toArray, List.set_cons_zero, List.set_cons_succ]))
    refine RV.m_nil ?_
    intro w6 hb6 _
    have HB6 := Lib.hid hb6
    obtain ⟨q1, r5⟩ := HQ.out _ hb6
    clear hb6 x1 x5 hne
    go_wp2_with fail
    go_ret
    rw [HR.out]
    exact ⟨rfl, HB6.out⟩
  | true =>
    have HG2 := Lib.hid (HG.out rfl)
    clear HG
    cases f with
    | false =>
      have HR := Lib.hid (show rs = 0 from by rw [← HRs.out]; simp)
      clear HRs
      refine reg_f (fun _ _ => True) (fun k v => match k with | [] => v = .bool true | _ => v = .bool false) 25 (by kernel_rfl) (by kernel_rfl) (fun _ _ _ _ _ => trivial) trivial ?_
      simp only [List.take_succ_cons, List.take_zero, List.drop_succ_cons, List.drop_zero]
      repeat (first
        | (refine RV.m_held (by rfl) (by rfl) (fun K hK => ?_); go_big_quiet_step (fail); refine wpQuiet_nil ?_; refine hK.out _ ?_; clear hK K)
        | (refine RV.m_skip (by rfl) ?_; simp only [Act.put, List.setIfInBounds_toArray, List.set_cons_zero, List.set_cons_succ]))
      refine RV.m_call (by rfl) (by rfl) (fun w => by go_simp; exact ⟨rfl, rfl⟩) (⟨_, rfl⟩) (fun X wx hx => ?_) (fun v hv => ?_)
      · refine (HC.out wx hx.1).mono ?_
        rintro e w2 ⟨rfl, hb2⟩
        exact ⟨_, rfl, rfl, bthen hx.1 hb2, trivial⟩
      obtain rfl : v = .bool true := hv
      simp only [Act.put, List.setIfInBounds_toArray, List.set_cons_zero, List.set_cons_succ]
      repeat (first
        | (refine RV.m_held (by rfl) (by rfl) (fun K hK => ?_); go_big_quiet_step (fail); refine wpQuiet_nil ?_; refine hK.out _ ?_; clear hK K)
        | (refine RV.m_skip (by rfl) ?_; simp only [Act.put, List.setIfInBounds_toArray, List.set_cons_zero, List.set_cons_succ]))
      refine RV.m_call (by rfl) (by rfl) (fun w => by go_simp; exact ⟨rfl, rfl⟩) (⟨_, rfl⟩) (fun X wx hx => ?_) (fun v hv => ?_)
      · refine (HG2.out wx hx.1).mono ?_
        rintro e w2 ⟨rfl, hb2⟩
        exact ⟨_, rfl, rfl, bthen hx.1 hb2, trivial⟩
      obtain rfl : v = .bool false := hv
      simp only [Act.put, List.setIfInBounds_toArray, List.set_cons_zero, List.set_cons_succ]
      repeat (first
        | (refine RV.m_held (by rfl) (by rfl) (fun K hK => ?_); go_big_quiet_step (fail); refine wpQuiet_nil ?_; refine hK.out _ ?_; clear hK K)
        | (refine RV.m_skip (by rfl) ?_; simp only [Act.put, List.setIfInBounds_toArray, List.set_cons_zero, List.set_cons_succ]))
      refine RV.m_nil ?_
      intro w6 hb6 _
      have HB6 := Lib.hid hb6
      obtain ⟨q1, r5⟩ := HQ.out _ hb6
      clear hb6 x1 x5 hne
      go_wp2_with fail
      go_ret
      rw [HR.out]
      exact ⟨rfl, HB6.out⟩
    | true =>
      have HR := Lib.hid (show rs = foc from by rw [← HRs.out]; simp)
      clear HRs
      refine reg_f (fun _ _ => True) (fun _ v => v = .bool true) 25 (by kernel_rfl) (by kernel_rfl) (fun _ _ _ _ _ => trivial) trivial ?_
      simp only [List.take_succ_cons, List.take_zero, List.drop_succ_cons, List.drop_zero]
      repeat (first
        | (refine RV.m_held (by rfl) (by rfl) (fun K hK => ?_); go_big_quiet_step (fail); refine wpQuiet_nil ?_; refine hK.out _ ?_; clear hK K)
        | (refine RV.m_skip (by rfl) ?_; simp only [Act.put, List.setIfInBounds_toArray, List.set_cons_zero, List.set_cons_succ]))
      refine RV.m_call (by rfl) (by rfl) (fun w => by go_simp; exact ⟨rfl, rfl⟩) (⟨_, rfl⟩) (fun X wx hx => ?_) (fun v hv => ?_)
      · refine (HC.out wx hx.1).mono ?_
        rintro e w2 ⟨rfl, hb2⟩
        exact ⟨_, rfl, rfl, bthen hx.1 hb2, trivial⟩
      obtain rfl := hv
      simp only [Act.put, List.setIfInBounds_toArray, List.set_cons_zero, List.set_cons_succ]
      repeat (first
        | (refine RV.m_held (by rfl) (by rfl) (fun K hK => ?_); go_big_quiet_step (fail); refine wpQuiet_nil ?_; refine hK.out _ ?_; clear hK K)
        | (refine RV.m_skip (by rfl) ?_; simp only [Act.put, List.setIfInBounds_toArray, List.set_cons_zero, List.set_cons_succ]))
      refine RV.m_call (by rfl) (by rfl) (fun w => by go_simp; exact ⟨rfl, rfl⟩) (⟨_, rfl⟩) (fun X wx hx => ?_) (fun v hv => ?_)
      · refine (HG2.out wx hx.1).mono ?_
        rintro e w2 ⟨rfl, hb2⟩
        exact ⟨_, rfl, rfl, bthen hx.1 hb2, trivial⟩
      obtain rfl := hv
      simp only [Act.put, List.setIfInBounds_toArray, List.set_cons_zero, List.set_cons_succ]
      repeat (first
        | (refine RV.m_held (by rfl) (by rfl) (fun K hK => ?_); go_big_quiet_step (fail); refine wpQuiet_nil ?_; refine hK.out _ ?_; clear hK K)
        | (refine RV.m_skip (by rfl) ?_; simp only [Act.put, List.setIfInBounds_toArray, List.set_cons_zero, List.set_cons_succ]))
      refine RV.m_nil ?_
      intro w6 hb6 _
      have HB6 := Lib.hid hb6
      obtain ⟨q1, r5⟩ := HQ.out _ hb6
      clear hb6 x1 x5 hne
      go_wp2_with fail
      go_ret
      rw [HR.out]
      exact ⟨rfl, HB6.out⟩
theorem root_has (D : DcOk S K d) (hT : TAt 0 R S sv fv w) (i : Nat) (n : Nd) (hi : S.at i = some n) :
    Calls Tryz.prog 97 #[.pointer (some ⟨R, 0, none⟩), .int .i64 (S.hd 0), .int .i64 (S.hd i)] w fun e w' => e = .returned (.bool true) ∧ Below w.heap.size w w' := by
  obtain ⟨n0, hn0⟩ := Option.isSome_iff_exists.1 D.live0
  have hsb := root_sub D _ i rfl (by rw [hi]; rfl)
  unfold subB at hsb
  obtain ⟨g, cap, rfl⟩ := slots_some hT (by have := at_lt hi; omega)
  have := contains_any hT D.lk 0 i n0 n hn0 hi
  rwa [hsb] at this
theorem root_cell (D : DcOk S K d) (hT : TAt 0 R S sv fv w) : w.cell? ⟨R, 5, none⟩ = some (.int .i64 (S.hd 0)) := by
  have := hT.blk.cell 5
  simp only [List.getElem?_cons_succ, List.getElem?_cons_zero] at this
  rw [this, D.ok.root]
theorem focused_at (D : DcOk S K d) (i : Nat) (n : Nd) (h : All B w0 (fsL Q fa (S.hd i) X ++ l) w) (hO : trO R S sv fv ∈ l) (hi : S.at i = some n) :
    Calls Tryz.prog 46 #[.pointer (some ⟨Q, 0, none⟩), .pointer (some ⟨R, 0, none⟩)] w fun e w' => e = .returned (.int .i64 (if focN n = true then S.hd i else 0)) ∧ Below w.heap.size w w' := by
  have hT : TAt 0 R S sv fv w := h.P _ (List.mem_append_right _ hO)
  have := focused_gen true (focN n) (S.hd 0) h (by have := (hd_ok D.lk hi).2; simp; omega) (fun wx hb => root_cell D (hT.below hb)) (fun wx hb => root_has D (hT.below hb) i n hi) (fun _ wx hb => focusable_any (hT.below hb) D.lk i n hi (D.al i n hi))
  rwa [Bool.true_and] at this
set_option maxRecDepth 100000 in
set_option maxHeartbeats 8000000 in
theorem setFocus_zero (h : All B w0 (fsL Q fa foc X ++ l) w) :
    Calls Tryz.prog 47 #[.pointer (some ⟨Q, 0, none⟩), .pointer (some ⟨R, 0, none⟩), .int .i64 0] w fun e w' => e = .returned (.int .i64 0) ∧ All B w0 (fsL Q fa 0 X ++ l) w' := by
  have q1 := st_focc h
  obtain ⟨h9, f1⟩ := fs_setFoc h 0
  have H9 := Lib.hid h9
  clear h9 h
  go_enter Tryz.func47, Tryz.ntmps47
  go_wp2_with fail
  go_ret
  exact ⟨rfl, H9.out⟩
set_option maxRecDepth 100000 in
set_option maxHeartbeats 8000000 in
theorem setFocus_at (D : DcOk S K d) (h : All B w0 (fsL Q fa foc X ++ l) w) (hO : trO R S sv fv ∈ l) (i : Nat) (n : Nd) (hi : S.at i = some n) :
    Calls Tryz.prog 47 #[.pointer (some ⟨Q, 0, none⟩), .pointer (some ⟨R, 0, none⟩), .int .i64 (S.hd i)] w fun e w' => e = .returned (.int .i64 (if focN n = true then 0 else 8)) ∧ All B w0 (fsL Q fa (if focN n = true then S.hd i else foc) X ++ l) w' := by
  have hT : TAt 0 R S sv fv w := h.P _ (List.mem_append_right _ hO)
  have HC := Lib.hid (root_has D hT i n hi)
  have HFo := Lib.hid (fun wx (hb : Below w.heap.size w wx) => focusable_any (hT.below hb) D.lk i n hi (D.al i n hi))
  have r5 := root_cell D hT
  have e0 : (S.hd i != 0) = true := by have := (hd_ok D.lk hi).2; simp; omega
  have H := Lib.hid h
  generalize S.hd i = hd at *
  generalize S.hd 0 = h0 at *
  generalize focN n = fb at *
  clear h hT hi D hO
  go_enter Tryz.func47, Tryz.ntmps47
  go_wp2_with fail
  refine HC.out.mono ?_
  rintro e w2 ⟨rfl, hb2⟩
  go_wp2_with fail
  refine (HFo.out _ hb2).mono ?_
  rintro e w3 ⟨rfl, hb3⟩
  have hA3 := H.out.still (bthen hb2 hb3)
  have q1 := st_focc hA3
  obtain ⟨h9, f1⟩ := fs_setFoc hA3 hd
  have H3 := Lib.hid hA3
  have H9 := Lib.hid h9
  clear h9 hb2 hb3 HC HFo hA3
  cases fb with
  | true =>
    go_wp2_with fail
    go_ret
    exact ⟨rfl, H9.out⟩
  | false =>
    go_wp2_with fail
    go_ret
    exact ⟨rfl, H3.out⟩
end
end Go.Proofs.YtacdbnhnhdlmpaaGreatDoor.W
end
section
namespace Go.Proofs.YtacdbnhnhdlmpaaGreatDoor.W
open Go.RowKit
def plH (S : Tr) (L : List Nat) (x : Int) : Option Nat := L.findIdx? fun y => S.hd y == x
def plI : Option Nat → Int
  | some j => (j : Int)
  | none => -1
theorem plH_some {S : Tr} {L : List Nat} {x : Int} {i : Nat} (h : plH S L x = some i) : i < L.length ∧ (∃ y, L[i]? = some y ∧ S.hd y = x) ∧ ∀ j y, j < i → L[j]? = some y → S.hd y ≠ x := by
  obtain ⟨hlt, h1, h2⟩ := List.findIdx?_eq_some_iff_getElem.1 h
  refine ⟨hlt, ⟨L[i], List.getElem?_eq_getElem hlt, by simpa using h1⟩, fun j y hj hy => ?_⟩
  have hjl : j < L.length := by omega
  rw [List.getElem?_eq_getElem hjl] at hy
  cases hy
  simpa using h2 j hj
theorem plH_of {S : Tr} {L : List Nat} {x : Int} {i : Nat} {y : Nat} (hi : L[i]? = some y) (hx : S.hd y = x) (hj : ∀ j z, j < i → L[j]? = some z → S.hd z ≠ x) : plH S L x = some i := by
  unfold plH
  obtain ⟨hlt, e⟩ := List.getElem?_eq_some_iff.1 hi
  rw [List.findIdx?_eq_some_iff_getElem]
  refine ⟨hlt, by rw [e]; simpa using hx, fun j hji => ?_⟩
  have := hj j (L[j]'(by omega)) hji (List.getElem?_eq_getElem _)
  simpa using this
set_option maxRecDepth 100000 in
set_option maxHeartbeats 4000000 in
theorem index_hd {w : World} {S : Tr} {v : Value} {L : List Nat} (h : Own w 3 1 v L.length (hdC S L)) (hl : L.length ≤ 1000) (x : Int) :
    Calls Tryz.prog 102 #[v, .int .i64 x] w fun e w' => e = .returned (.int .i64 (plI (plH S L x))) ∧ w' = w := by
  obtain ⟨va, vc, rfl⟩ := own_shape h
  have HG := Lib.hid (fun j y (hy : L[j]? = some y) => hdC_get (B := 0) h hy)
  clear h
  obtain ⟨r, hr⟩ : ∃ r, plH S L x = r := ⟨_, rfl⟩
  rw [hr]
  have HR := Lib.hid hr
  clear hr
  go_enter Tryz.func102, Tryz.ntmps102
  go_wp2_with fail
  go_loop [8] (fun iv => ∃ t : Nat, t ≤ L.length ∧ iv = .int .i64 (t : Int) ∧ ∀ j y, j < t → L[j]? = some y → S.hd y ≠ x) (fun iv => L.length - (intOf iv).toNat)
  case atStart => exact ⟨0, Nat.zero_le _, rfl, fun j y hj => by omega⟩
  case round =>
    obtain ⟨t, ht, rfl, hno⟩ := hrel
    have HNo := Lib.hid hno
    clear hno
    by_cases htl : t < L.length
    · obtain ⟨y, hy⟩ : ∃ y, L[t]? = some y := ⟨_, List.getElem?_eq_getElem htl⟩
      obtain ⟨vg, e, _, hvc, ck⟩ := HG.out t y hy
      subst e
      by_cases hx : S.hd y = x
      · have hp := plH_of hy hx HNo.out
        rw [HR.out] at hp
        have HE := Lib.hid (show plI r = (t : Int) from by rw [hp]; rfl)
        have ex : (x == S.hd y) = true := by simp [hx]
        generalize S.hd y = hy' at *
        clear hp hx hy
        go_wp2_with fail
        go_ret
        rw [HE.out]
        exact ⟨rfl, rfl⟩
      · have ex : (x == S.hd y) = false := by simpa using fun e => hx e.symm
        have HN2 := Lib.hid (show ∀ j z, j < t + 1 → L[j]? = some z → S.hd z ≠ x from fun j z hj hz => by
          by_cases e : j = t
          · subst e; rw [hy] at hz; cases hz; exact hx
          · exact HNo.out j z (by omega) hz)
        generalize S.hd y = hy' at *
        clear hx hy
        go_wp2_with fail
        go_round
        case rel => exact ⟨t + 1, by omega, by go_num, HN2.out⟩
        case measure => simp [intOf]; omega
    · obtain rfl : t = L.length := by omega
      have HE := Lib.hid (show plI r = -1 from by
        cases r with
        | none => rfl
        | some i =>
          obtain ⟨h1, ⟨y, h2, h3⟩, _⟩ := plH_some HR.out
          exact absurd h3 (HNo.out i y h1 h2))
      go_wp2_with fail
      go_ret
      rw [HE.out]
      exact ⟨rfl, rfl⟩
def nxI (m : Nat) (o : Option Nat) (back : Bool) : Nat := match back, o with
  | true, none => m - 1
  | true, some j => if j = 0 then m - 1 else j - 1
  | false, none => 0
  | false, some j => (j + 1) % m
theorem nxI_lt {m : Nat} {o : Option Nat} (back : Bool) (hm : 0 < m) (ho : ∀ j, o = some j → j < m) : nxI m o back < m := by
  unfold nxI
  cases back <;> cases o with
  | none => simp <;> omega
  | some j =>
    have := ho j rfl
    first
      | exact Nat.mod_lt _ hm
      | (simp only []; split <;> omega)
def nxH (S : Tr) (L : List Nat) (fv : Int) (back : Bool) : Int := if L = [] then 0 else S.hd (L.getD (nxI L.length (plH S L fv) back) 0)
section
variable {B R Q : Nat} {S : Tr} {sv fv fa : Value} {w w0 : World} {K : Nat → List Nat} {d : Nat → Nat} {X : List FX} {foc : Int} {l : List Ob}
set_option maxRecDepth 100000 in
set_option maxHeartbeats 8000000 in
theorem next_any (D : DcOk S K d) (h : TAt 0 R S sv fv w) (x : Int) (hf : ∀ wx, Below w.heap.size w wx → Calls Tryz.prog 46 #[.pointer (some ⟨Q, 0, none⟩), .pointer (some ⟨R, 0, none⟩)] wx fun e w' => e = .returned (.int .i64 x) ∧ Below wx.heap.size wx w') (back : Bool) :
    Calls Tryz.prog 53 #[.pointer (some ⟨Q, 0, none⟩), .pointer (some ⟨R, 0, none⟩), .bool back] w fun e w' => e = .returned (.int .i64 (nxH S (focL S K d) x back)) ∧ Below w.heap.size w w' := by
  have HFs := Lib.hid (focusables_any D h)
  have HFo := Lib.hid hf
  have hlen := focL_len D
  unfold nxH
  generalize focL S K d = fl at *
  clear h hf D
  by_cases hn : fl = []
  · subst hn
    rw [if_pos rfl]
    go_enter Tryz.func53, Tryz.ntmps53
    go_wp2_with fail
    refine HFs.out.mono ?_
    rintro e w1 ⟨v, rfl, hv, hb1⟩
    obtain ⟨va, vc, rfl⟩ := own_shapeB hv
    have HB1 := Lib.hid hb1
    clear hv hb1
    simp only [List.length_nil]
    go_wp2_with fail
    go_ret
    exact ⟨rfl, HB1.out⟩
  · rw [if_neg hn]
    have hm : 0 < fl.length := List.length_pos_iff.2 hn
    have gm : ((fl.length : Int) == 0) = false := by simpa using hn
    have gm0 : ¬ (fl.length : Int) = 0 := by omega
    have hlo : ∀ j, plH S fl x = some j → j < fl.length := fun j hj => (plH_some hj).1
    have hlt := nxI_lt back hm hlo
    obtain ⟨o, ho⟩ : ∃ o, plH S fl x = o := ⟨_, rfl⟩
    have HIx := Lib.hid (fun (w : World) (v : Value) (h : Own w 3 1 v fl.length (hdC S fl)) => index_hd h (by omega) x)
    rw [ho] at hlt hlo HIx ⊢
    obtain ⟨r, hr⟩ : ∃ r, fl[nxI fl.length o back]? = some r := ⟨_, List.getElem?_eq_getElem hlt⟩
    have hge : fl.getD (nxI fl.length o back) 0 = r := by rw [List.getD_eq_getElem?_getD, hr]; rfl
    rw [hge]
    have HHr := Lib.hid hr
    clear hge ho hr hn
    go_enter Tryz.func53, Tryz.ntmps53
    go_wp2_with fail
    refine HFs.out.mono ?_
    rintro e w1 ⟨v, rfl, hv, hb1⟩
    obtain ⟨va, vc, rfl⟩ := own_shapeB hv
    have HV := Lib.hid hv
    have HB1 := Lib.hid hb1
    clear hv hb1 HFs
    go_wp2_with fail
    refine (HFo.out _ HB1.out).mono ?_
    rintro e w2 ⟨rfl, hb2⟩
    have HV2 := Lib.hid (own_keepB HV.out hb2)
    have HB2 := Lib.hid (bthen HB1.out hb2)
    clear hb2 HV HB1 HFo
    go_wp2_with fail
    refine (HIx.out _ _ (own_low HV2.out (Nat.zero_le _))).mono ?_
    rintro e w3 ⟨rfl, rfl⟩
    obtain ⟨vg, e, _, hvc, ck⟩ := hdC_get (B := 0) (own_low HV2.out (Nat.zero_le _)) HHr.out
    subst e
    have HHr2 := HHr.out
    clear HHr HIx HV2
    cases back with
    | true =>
      cases o with
      | none =>
        simp only [plI, nxI] at ck hlt ⊢
        have em : (fl.length : Int) - 1 = ((fl.length - 1 : Nat) : Int) := by omega
        go_wp2_with fail
        go_ret
        exact ⟨rfl, HB2.out⟩
      | some j =>
        have hj := hlo j rfl
        by_cases h0 : j = 0
        · subst h0
          simp only [plI, nxI, if_true] at ck hlt ⊢
          have em : (fl.length : Int) - 1 = ((fl.length - 1 : Nat) : Int) := by omega
          go_wp2_with fail
          go_ret
          exact ⟨rfl, HB2.out⟩
        · simp only [plI, nxI, if_neg h0] at ck hlt ⊢
          have em : (j : Int) - 1 = ((j - 1 : Nat) : Int) := by omega
          have gj : decide ((j : Int) ≤ 0) = false := by simp; omega
          have gj2 : decide (j ≤ 0) = false := by simp; omega
          have gj3 : ¬ (j : Int) ≤ 0 := by omega
          go_wp2_with fail
          go_ret
          exact ⟨rfl, HB2.out⟩
    | false =>
      cases o with
      | none =>
        simp only [plI, nxI] at ck hlt ⊢
        have em : Int.tmod (-1 + 1) (fl.length : Int) = 0 := by simp
        go_wp2_with fail
        go_ret
        exact ⟨rfl, HB2.out⟩
      | some j =>
        have hj := hlo j rfl
        simp only [plI, nxI] at ck hlt ⊢
        have em : Int.tmod ((j : Int) + 1) (fl.length : Int) = (((j + 1) % fl.length : Nat) : Int) := by
          rw [Int.tmod_eq_emod_of_nonneg (by omega)]; rfl
        have em2 : ((j : Int) + 1) % (fl.length : Int) = (((j + 1) % fl.length : Nat) : Int) := rfl
        have hlt2 : (((j + 1) % fl.length : Nat) : Int) < (fl.length : Int) := by omega
        generalize (j + 1) % fl.length = jj at *
        go_wp2_with fail
        go_ret
        exact ⟨rfl, HB2.out⟩
end
end Go.Proofs.YtacdbnhnhdlmpaaGreatDoor.W
end
section
namespace Go.Proofs.YtacdbnhnhdlmpaaGreatDoor.W
open Go.RowKit
section
variable {B R Q : Nat} {S : Tr} {sv fv fa : Value} {w w0 : World} {K : Nat → List Nat} {d : Nat → Nat} {X : List FX} {foc : Int} {l : List Ob}
theorem focused_ok (D : DcOk S K d) (h : All B w0 (fsL Q fa foc X ++ l) w) (hO : trO R S sv fv ∈ l) (hf : foc = 0 ∨ ∃ i ∈ focL S K d, foc = S.hd i) :
    Calls Tryz.prog 46 #[.pointer (some ⟨Q, 0, none⟩), .pointer (some ⟨R, 0, none⟩)] w fun e w' => e = .returned (.int .i64 foc) ∧ Below w.heap.size w w' := by
  rcases hf with rfl | ⟨i, hi, rfl⟩
  · exact focused_zero h
  · obtain ⟨n, hn, hfn⟩ := focL_at hi
    have := focused_at D i n h hO hn
    rwa [if_pos hfn] at this
theorem hd_of_ge {fl : List Nat} (D : DcOk S K d) (hs : ∀ x ∈ fl, (S.at x).isSome = true) : ∀ x ∈ fl, S.hd x ≠ 0 := fun x hx => by
  obtain ⟨n, hn⟩ := Option.isSome_iff_exists.1 (hs x hx)
  have := (hd_ok D.lk hn).2
  omega
theorem focL_live (D : DcOk S K d) : ∀ x ∈ focL S K d, (S.at x).isSome = true := fun x hx => by
  obtain ⟨n, hn, _⟩ := focL_at hx
  rw [hn]; rfl
theorem pl_zero (D : DcOk S K d) : plH S (focL S K d) 0 = none := by
  cases e : plH S (focL S K d) 0 with
  | none => rfl
  | some i =>
    obtain ⟨_, ⟨y, h2, h3⟩, _⟩ := plH_some e
    exact absurd h3 (hd_of_ge D (focL_live D) y (List.mem_of_getElem? h2))
theorem pl_at (D : DcOk S K d) {j x : Nat} (h : (focL S K d)[j]? = some x) : plH S (focL S K d) (S.hd x) = some j := by
  refine plH_of h rfl fun i z hi hz e => ?_
  have hx := focL_live D x (List.mem_of_getElem? h)
  have hzl := focL_live D z (List.mem_of_getElem? hz)
  have ez := D.hd_inj hzl hx e
  subst ez
  have hn := focL_nd D
  obtain ⟨h2, e2⟩ := List.getElem?_eq_some_iff.1 hz
  have := (List.getElem?_inj h2 hn).1 (hz.trans h.symm)
  omega
def fcT (S : Tr) (fl : List Nat) (t : Nat) : Int := if t = 0 then 0 else S.hd (fl.getD ((t - 1) % fl.length) 0)
def fcB (S : Tr) (fl : List Nat) (t : Nat) : Int := S.hd (fl.getD ((2 * fl.length - 1 - t) % fl.length) 0)
theorem getD_some {fl : List Nat} {i : Nat} (h : i < fl.length) : fl[i]? = some (fl.getD i 0) := by
  rw [List.getD_eq_getElem?_getD, List.getElem?_eq_getElem h]; rfl
theorem fcT_ok (D : DcOk S K d) (hm : 0 < (focL S K d).length) (t : Nat) : fcT S (focL S K d) t = 0 ∨ ∃ i ∈ focL S K d, fcT S (focL S K d) t = S.hd i := by
  unfold fcT
  by_cases h0 : t = 0
  · exact .inl (if_pos h0)
  · rw [if_neg h0]
    exact .inr ⟨_, List.mem_of_getElem? (getD_some (Nat.mod_lt (t - 1) hm)), rfl⟩
theorem fcB_ok (D : DcOk S K d) (hm : 0 < (focL S K d).length) (t : Nat) : fcB S (focL S K d) t = 0 ∨ ∃ i ∈ focL S K d, fcB S (focL S K d) t = S.hd i :=
  .inr ⟨_, List.mem_of_getElem? (getD_some (Nat.mod_lt (2 * (focL S K d).length - 1 - t) hm)), rfl⟩
theorem nx_fwd (D : DcOk S K d) (hm : 0 < (focL S K d).length) (t : Nat) : nxH S (focL S K d) (fcT S (focL S K d) t) false = fcT S (focL S K d) (t + 1) := by
  have hne : focL S K d ≠ [] := List.length_pos_iff.1 hm
  unfold nxH
  rw [if_neg hne]
  unfold fcT
  rw [if_neg (Nat.succ_ne_zero t), Nat.add_sub_cancel]
  by_cases h0 : t = 0
  · subst h0
    rw [if_pos rfl, pl_zero D]
    simp [nxI]
  · rw [if_neg h0, pl_at D (getD_some (Nat.mod_lt (t - 1) hm))]
    simp only [nxI]
    have : ((t - 1) % (focL S K d).length + 1) % (focL S K d).length = t % (focL S K d).length := by
      rw [Nat.mod_add_mod]
      congr 1
      omega
    rw [this]
theorem nx_back (D : DcOk S K d) (hm : 0 < (focL S K d).length) (t : Nat) (ht : t < (focL S K d).length) : nxH S (focL S K d) (fcB S (focL S K d) t) true = fcB S (focL S K d) (t + 1) := by
  have hne : focL S K d ≠ [] := List.length_pos_iff.1 hm
  unfold nxH
  rw [if_neg hne]
  unfold fcB
  rw [pl_at D (getD_some (Nat.mod_lt _ hm))]
  generalize focL S K d = fl at *
  have e1 : (2 * fl.length - 1 - t) % fl.length = fl.length - 1 - t := by
    rw [show 2 * fl.length - 1 - t = (fl.length - 1 - t) + fl.length by omega, Nat.add_mod_right, Nat.mod_eq_of_lt (by omega)]
  rw [e1]
  simp only [nxI]
  by_cases h0 : fl.length - 1 - t = 0
  · rw [if_pos h0, show 2 * fl.length - 1 - (t + 1) = fl.length - 1 by omega, Nat.mod_eq_of_lt (by omega)]
  · rw [if_neg h0, show 2 * fl.length - 1 - (t + 1) = (fl.length - 1 - t - 1) + fl.length by omega, Nat.add_mod_right, Nat.mod_eq_of_lt (by omega)]
theorem nx_last (D : DcOk S K d) (hm : 0 < (focL S K d).length) : nxH S (focL S K d) 0 true = S.hd ((focL S K d).getD ((focL S K d).length - 1) 0) := by
  unfold nxH
  rw [if_neg (List.length_pos_iff.1 hm), pl_zero D]
  rfl
set_option maxRecDepth 100000 in
set_option maxHeartbeats 8000000 in
theorem key_tab (D : DcOk S K d) (h : All B w0 (fsL Q fa foc X ++ l) w) (hO : trO R S sv fv ∈ l) (hf : foc = 0 ∨ ∃ i ∈ focL S K d, foc = S.hd i) (back : Bool) (key : List UInt8) (hkey : key = if back = true then sShift else sTab) :
    Calls Tryz.prog 50 #[.pointer (some ⟨Q, 0, none⟩), .pointer (some ⟨R, 0, none⟩), .string ⟨key.toArray⟩] w fun e w' => e = .returned (if focL S K d = [] then actV 0 0 0 else actV 3 (nxH S (focL S K d) foc back) 0) ∧ All B w0 (fsL Q fa (nxH S (focL S K d) foc back) X ++ l) w' := by
  have hT : TAt 0 R S sv fv w := h.P _ (List.mem_append_right _ hO)
  have h1 := fs_newbk h w.heap.size rfl [.int .i64 0, .int .i64 0, .int .i64 0] 91
  have hb1 : Below w.heap.size w (w.alloc (.cells #[.int .i64 0, .int .i64 0, .int .i64 0] 91)) := (Below.refl _ _).alloc (Nat.le_refl _) _
  have hO1 : trO R S sv fv ∈ bk w.heap.size [.int .i64 0, .int .i64 0, .int .i64 0] 91 :: l := List.mem_cons_of_mem _ hO
  have HN := Lib.hid (next_any D (hT.below hb1) foc (fun wx hb => focused_ok D (h1.still hb) hO1 hf) back)
  have H1 := Lib.hid h1
  have t1 : (key == [84, 97, 98]) = !back := by rw [hkey]; cases back <;> rfl
  have t2 : (key == [83, 104, 105, 102, 116, 84, 97, 98]) = back := by rw [hkey]; cases back <;> rfl
  have hz : focL S K d = [] ↔ nxH S (focL S K d) foc back = 0 := by
    constructor
    · intro e; unfold nxH; rw [if_pos e]
    · intro e
      refine Classical.byContradiction fun hne => ?_
      unfold nxH at e
      rw [if_neg hne] at e
      have hm : 0 < (focL S K d).length := List.length_pos_iff.2 hne
      have hlt := nxI_lt back hm (fun j hj => (plH_some (S := S) (x := foc) hj).1)
      exact hd_of_ge D (focL_live D) _ (List.mem_of_getElem? (getD_some hlt)) e
  obtain ⟨rv, hrv⟩ : ∃ rv, (if focL S K d = [] then actV 0 0 0 else actV 3 (nxH S (focL S K d) foc back) 0) = rv := ⟨_, rfl⟩
  rw [hrv]
  have hrv2 : (if nxH S (focL S K d) foc back = 0 then actV 0 0 0 else actV 3 (nxH S (focL S K d) foc back) 0) = rv := by
    rw [← hrv]
    by_cases e : focL S K d = []
    · rw [if_pos e, if_pos (hz.1 e)]
    · rw [if_neg e, if_neg (fun q => e (hz.2 q))]
  generalize nxH S (focL S K d) foc back = nv at *
  have HRv := Lib.hid hrv2
  clear h h1 hb1 hT hO hf D hkey hz hrv hrv2 hO1
  go_enter Tryz.func50, Tryz.ntmps50
  cases back with
  | true =>
    go_wp2_with fail
    refine HN.out.mono ?_
    rintro e w2 ⟨rfl, hb2⟩
    have hA2 := H1.out.still hb2
    have q1 := st_focc hA2
    obtain ⟨h9, f1⟩ := fs_setFoc hA2 nv
    have H9 := Lib.hid h9
    clear h9 hb2 hA2 HN H1
    go_upto_region 3 with fail
    generalize w2.setCell ⟨Q, 1, none⟩ (.int .i64 nv) = w3 at *
    have q3 := st_focc H9.out
    have kb : Blk w3 w.heap.size [.int .i64 0, .int .i64 0, .int .i64 0] 91 := H9.out.mid
    have z0 := kb.cell 0
    have z1 := kb.cell 1
    have z2 := kb.cell 2
    have f0 := kb.free 0
    have f1' := kb.free 1
    have f2 := kb.free 2
    simp only [List.getElem?_cons_succ, List.getElem?_cons_zero] at z0 z1 z2
    clear kb q1 f1
    by_cases h0 : nv = 0
    · subst h0
      have HE := Lib.hid (show rv = actV 0 0 0 from by rw [← HRv.out, if_pos rfl])
      go_wp2_with fail
      have hA1 := All.setBk (fsL Q fa 0 X) H9.out 0 (.int .i64 (0))
      have hA2 := All.setBk (fsL Q fa 0 X) hA1 1 (.int .i64 (0))
      have hA3 := All.setBk (fsL Q fa 0 X) hA2 2 (.int .i64 (0))
      rw [HE.out]
      refine bodyPost_ret (res_ac (j := 6) (by rfl) (by rfl) (show Blk _ w.heap.size [.int .i64 (0), .int .i64 (0), .int .i64 (0)] _ from hA3.mid)) rfl ⟨rfl, ?_⟩
      exact fs_dropbk hA3
    · have HE := Lib.hid (show rv = actV 3 nv 0 from by rw [← HRv.out, if_neg h0])
      have e0 : (nv == 0) = false := by simpa using h0
      clear h0
      go_wp2_with fail
      have hA1 := All.setBk (fsL Q fa nv X) H9.out 0 (.int .i64 (3))
      have hA2 := All.setBk (fsL Q fa nv X) hA1 1 (.int .i64 (nv))
      have hA3 := All.setBk (fsL Q fa nv X) hA2 2 (.int .i64 (0))
      rw [HE.out]
      refine bodyPost_ret (res_ac (j := 6) (by rfl) (by rfl) (show Blk _ w.heap.size [.int .i64 (3), .int .i64 (nv), .int .i64 (0)] _ from hA3.mid)) rfl ⟨rfl, ?_⟩
      exact fs_dropbk hA3
  | false =>
    go_wp2_with fail
    refine HN.out.mono ?_
    rintro e w2 ⟨rfl, hb2⟩
    have hA2 := H1.out.still hb2
    have q1 := st_focc hA2
    obtain ⟨h9, f1⟩ := fs_setFoc hA2 nv
    have H9 := Lib.hid h9
    clear h9 hb2 hA2 HN H1
    go_upto_region 3 with fail
    generalize w2.setCell ⟨Q, 1, none⟩ (.int .i64 nv) = w3 at *
    have q3 := st_focc H9.out
    have kb : Blk w3 w.heap.size [.int .i64 0, .int .i64 0, .int .i64 0] 91 := H9.out.mid
    have z0 := kb.cell 0
    have z1 := kb.cell 1
    have z2 := kb.cell 2
    have f0 := kb.free 0
    have f1' := kb.free 1
    have f2 := kb.free 2
    simp only [List.getElem?_cons_succ, List.getElem?_cons_zero] at z0 z1 z2
    clear kb q1 f1
    by_cases h0 : nv = 0
    · subst h0
      have HE := Lib.hid (show rv = actV 0 0 0 from by rw [← HRv.out, if_pos rfl])
      go_wp2_with fail
      have hA1 := All.setBk (fsL Q fa 0 X) H9.out 0 (.int .i64 (0))
      have hA2 := All.setBk (fsL Q fa 0 X) hA1 1 (.int .i64 (0))
      have hA3 := All.setBk (fsL Q fa 0 X) hA2 2 (.int .i64 (0))
      rw [HE.out]
      refine bodyPost_ret (res_ac (j := 6) (by rfl) (by rfl) (show Blk _ w.heap.size [.int .i64 (0), .int .i64 (0), .int .i64 (0)] _ from hA3.mid)) rfl ⟨rfl, ?_⟩
      exact fs_dropbk hA3
    · have HE := Lib.hid (show rv = actV 3 nv 0 from by rw [← HRv.out, if_neg h0])
      have e0 : (nv == 0) = false := by simpa using h0
      clear h0
      go_wp2_with fail
      have hA1 := All.setBk (fsL Q fa nv X) H9.out 0 (.int .i64 (3))
      have hA2 := All.setBk (fsL Q fa nv X) hA1 1 (.int .i64 (nv))
      have hA3 := All.setBk (fsL Q fa nv X) hA2 2 (.int .i64 (0))
      rw [HE.out]
      refine bodyPost_ret (res_ac (j := 6) (by rfl) (by rfl) (show Blk _ w.heap.size [.int .i64 (3), .int .i64 (nv), .int .i64 (0)] _ from hA3.mid)) rfl ⟨rfl, ?_⟩
      exact fs_dropbk hA3
theorem focN_kind (D : DcOk S K d) {i : Nat} {n : Nd} (hi : S.at i = some n) (hf : focN n = true) : n.kind = 2 := Classical.byContradiction fun e => by
  have h1 := D.nm i n hi e
  have h2 := D.na i n hi e
  have : kindN n = 0 := by unfold kindN kindF; rw [h1]; rfl
  unfold focN at hf
  simp only [this, attV_nil h2, h1] at hf
  simp [sA] at hf
theorem rem_all {l1 : List Ob} (h : All B w0 (l1 ++ trO R S sv fv :: l) w) (L : Lk S K d) (i : Nat) (n : Nd) (hi : S.at i = some n) (hk : n.kind ≠ 1) {q j : Nat} (hj : (K q)[j]? = some i) :
    Calls Tryz.prog 54 #[.pointer (some ⟨R, 0, none⟩), .int .i64 (S.hd i)] w fun e w' => ∃ S' sv' fv' v, e = .returned (.tuple #[v, .int .i64 0]) ∧ Cutd S S' (K q) q j i ∧ All B w0 (l1 ++ trO R S' sv' fv' :: l) w' := by
  have hT : TAt 0 R S sv fv w := h.mid
  obtain ⟨g, cap, rfl⟩ := slots_some hT (by have := at_lt hi; omega)
  refine (remove_kid hT L q j i n hi hk hj).mono ?_
  rintro e w' ⟨S', v, hc, rfl, hrc, hT', hC⟩
  rw [hc.len] at hT'
  refine ⟨S', _, fv, v, rfl, hc, h.step l1 (o := trO R S (.slice (some ⟨g, 0, none⟩) S.slots.length cap) fv) (o' := trO R S' (.slice (some ⟨g, 0, none⟩) S.slots.length cap) fv) hT' (hC.mono (fun i _ e => by subst e; exact .inr (.inl rfl))) (fun k hk => .inl (trF_map _ (keeps_cut _ _ _ _ _) hc.at_ k hk))⟩
end
end Go.Proofs.YtacdbnhnhdlmpaaGreatDoor.W
end
