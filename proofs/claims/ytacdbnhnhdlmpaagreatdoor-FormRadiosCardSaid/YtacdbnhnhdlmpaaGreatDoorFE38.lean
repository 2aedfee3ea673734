/- Texts joined: Sgl SgF Sme Act Awk. -/
import Derived.Test.YtacdbnhnhdlmpaaGreatDoorFE37
import Derived.Test.YtacdbnhnhdlmpaaGreatDoorFE33
import Derived.Test.YtacdbnhnhdlmpaaGreatDoorFE15
import Derived.Test.YtacdbnhnhdlmpaaGreatDoorFE31
import Derived.Test.YtacdbnhnhdlmpaaGreatDoorFE30
set_option maxRecDepth 100000
set_option maxHeartbeats 40000000
set_option linter.unusedVariables false
set_option linter.unusedSimpArgs false
section
namespace Go.Proofs.YtacdbnhnhdlmpaaGreatDoor.W
open Go.RowKit
def sBody : List UInt8 := [98, 111, 100, 121]
structure SgOk (area : Bool) (x : List UInt8) (S : Tr) (K : Nat → List Nat) (d : Nat → Nat) : Prop where
  ok : TrOk 1 S K d
  fr : S.free = []
  len : S.slots.length = if area then 4 else 3
  n0 : nI S 0 = some (1, [], [], [])
  n1 : nI S 1 = some (2, sBody, [], [])
  n2 : nI S 2 = some (2, if area then sArea else sInput, if area then [] else [(sValue, fix x)], [])
  n3 : area = true → nI S 3 = some (3, [], [], fix x)
  k0 : K 0 = [1]
  k1 : K 1 = [2]
  k2 : K 2 = if area then [3] else []
  k3 : K 3 = []
  d0 : d 0 = 1
  d1 : d 1 = 2
  d2 : d 2 = 3
theorem rfix_len3 (n : Nat) : ∀ l : List UInt8, l.length ≤ n → (rfix l).length ≤ 3 * l.length := by
  induction n with
  | zero =>
    intro l h
    have : l = [] := List.eq_nil_of_length_eq_zero (by omega)
    subst this
    rw [rfix_nil]; simp
  | succ n ih =>
    intro l h
    by_cases hne : l = []
    · subst hne; rw [rfix_nil]; simp
    · have hl : 0 < l.length := List.length_pos_iff.2 hne
      rw [rfix_step l hne]
      split
      · have := ih (l.drop 1) (by rw [List.length_drop]; omega)
        rw [List.length_drop] at this
        simp only [List.length_append, List.length_cons, List.length_nil]
        omega
      · rename_i h0
        have := ih (l.drop (szL l)) (by rw [List.length_drop]; omega)
        rw [List.length_drop] at this
        rw [List.length_append, List.length_take]
        omega
theorem fix_len3 (l : List UInt8) : (fix l).length ≤ 3 * l.length := by rw [fix_rfix]; exact rfix_len3 l.length l (Nat.le_refl _)
theorem kin_ne {K : Nat → List Nat} {p i q : Nat} (h : q ≠ p) : KIn K p i q = K q := if_neg h
theorem kin_eq {K : Nat → List Nat} {p i : Nat} : KIn K p i p = K p ++ [i] := if_pos rfl
theorem kin_mem {K : Nat → List Nat} {p i q x : Nat} (h : x ∈ KIn K p i q) : x ∈ K q ∨ x = i := by
  unfold KIn at h
  split at h
  · rename_i e; subst e
    rcases List.mem_append.1 h with h | h
    · exact .inl h
    · exact .inr (by simpa using h)
  · exact .inl h
theorem dadd_ne {d : Nat → Nat} {s x : Nat} (h : x ≠ s) : dAdd d s x = d x := if_neg h
theorem el_body : (elmB sBody && namesB []) = true := by kernel_rfl
theorem el_input (x : List UInt8) : (elmB sInput && namesB [(sValue, x)]) = true := by kernel_rfl
theorem el_area : (elmB sArea && namesB []) = true := by kernel_rfl
set_option maxRecDepth 100000 in
set_option maxHeartbeats 8000000 in
theorem single_any {B : Nat} {w0 w : World} {l : List Ob} (h : All B w0 l w) (hL : ∀ wx, Below B w0 wx → Laid wx) (area : Bool) (x : List UInt8) (hx : x.length ≤ 60) :
    Calls Tryz.prog 14 #[.bool area, .string ⟨x.toArray⟩] w fun e w' => ∃ R S sv fv K d, e = .returned (.tuple #[.pointer (some ⟨R, 0, none⟩), .int .i64 (S.hd 2)]) ∧ All B w0 (trO R S sv fv :: l) w' ∧ SgOk area x S K d := by
  have hfx := fix_len3 x
  have HNew := Lib.hid (tree_newA h 7 2)
  have hnil : ∀ wx, Own wx 85 2 (.slice none 0 0) ([] : List Atr).length (attrC []) := fun wx => World.ownsRow_nil _ _ _ _
  clear h
  have i0 : nI (newT 7 2) 0 = some (1, [], [], []) := rfl
  have l0 : (newT 7 2).slots.length = 1 := rfl
  have T0 := newT_ok 7 2
  have f0 : (newT 7 2).free = [] := rfl
  have r0 : (newT 7 2).root = (newT 7 2).hd 0 := rfl
  have hK0 : ∀ q, (fun _ : Nat => ([] : List Nat)) q = [] := fun _ => rfl
  have hd0 : ∀ q, (fun _ : Nat => (1 : Nat)) q = 1 := fun _ => rfl
  generalize newT 7 2 = S0 at *
  generalize (fun _ : Nat => ([] : List Nat)) = K0 at *
  generalize (fun _ : Nat => (1 : Nat)) = d0 at *
  go_enter Tryz.func14, Tryz.ntmps14
  go_wp2_with fail
  refine HNew.out.mono ?_
  rintro e w1 ⟨R, sv0, rfl, hA1⟩
  have HM1 := Lib.hid (make_el hA1 (hL _ hA1.below) T0 f0 (by omega) 1 l0 sBody (by decide) (.slice none 0 0) [] (hnil w1) (by simp) (fun a ha => by cases ha) el_body)
  clear hA1
  go_wp2_with fail
  refine HM1.out.mono ?_
  rintro e w2 ⟨S1, sv1, fv1, rfl, hA2, g1⟩
  obtain ⟨T1, f1, l1, n1, h1, r1, k1, t1⟩ := g1
  obtain ⟨p0, hp0, hk0, _⟩ := nI_some ((n1 0).trans (by rw [if_neg (by omega)]; exact i0))
  obtain ⟨p1, hp1, hk1, _⟩ := nI_some ((n1 1).trans (if_pos (by omega)))
  have e00 : dAdd d0 1 0 = 1 := by unfold dAdd; rw [if_neg (by omega), hd0]
  have e01 : dAdd d0 1 1 = 1 := by unfold dAdd; rw [if_pos rfl]
  have HI1 := Lib.hid (ins_all hA2 T1 0 1 p0 p1 hp0 hp1 k1 t1 (by omega) (.inr ⟨hk0, hk1, hK0 0⟩) (by rw [e00]; omega))
  have c5 := (show TAt 0 R S1 sv1 fv1 w2 from hA2.head).blk.cell 5
  simp only [List.getElem?_cons_succ, List.getElem?_cons_zero] at c5
  rw [r1, r0] at c5
  rw [h1, h1] at HI1
  clear hA2
  go_wp2_with fail
  refine HI1.out.mono ?_
  rintro e w3 ⟨S2, sv2, fv2, v2, rfl, hA3, g2⟩
  obtain ⟨T2, f2, l2, n2, h2, r2⟩ := g2
  have kk0 : KIn K0 0 1 0 = [1] := by unfold KIn; rw [if_pos rfl, hK0]; rfl
  have kk : ∀ q, q ≠ 0 → KIn K0 0 1 q = [] := fun q hq => by unfold KIn; rw [if_neg hq, hK0]
  have dd0 : (fun x => if x = 1 then dAdd d0 1 0 + 1 else dAdd d0 1 x) 0 = 1 := by simp [e00]
  have dd1 : (fun x => if x = 1 then dAdd d0 1 0 + 1 else dAdd d0 1 x) 1 = 2 := by simp [e00]
  generalize KIn K0 0 1 = K1 at *
  generalize (fun x => if x = 1 then dAdd d0 1 0 + 1 else dAdd d0 1 x) = d1 at *
  rw [l1] at l2
  rw [f1] at f2
  have h2 : ∀ x, S2.hd x = S0.hd x := fun x => (h2 x).trans (h1 x)
  cases area with
  | false =>
    have hA4 := hA3.alloc (.cells #[.string ⟨sValue.toArray⟩, .string ⟨x.toArray⟩] 85)
    have HM2 := Lib.hid (make_el hA4 (hL _ hA4.below) T2 f2 (by omega) 2 l2 sInput (by decide) (.slice (some ⟨w3.heap.size, 0, none⟩) 1 1) [(sValue, x)] (own_at (n := 1) (size := 2) (Blk.new w3 (attrC [(sValue, x)]) 85) rfl (by omega)) (by simp) (fun a ha => by simp only [List.mem_singleton] at ha; subst ha; exact ⟨by show sValue.length ≤ 200; decide, by simp only; omega, by simp only; omega⟩) (el_input x))
    clear hA3 hA4
    go_wp2_with fail
    refine HM2.out.mono ?_
    rintro e w4 ⟨S3, sv3, fv3, rfl, hA5, g3⟩
    obtain ⟨T3, f3, l3, n3, h3, r3, k3, t3⟩ := g3
    obtain ⟨q1, hq1, hqk1, _⟩ := nI_some ((n3 1).trans (by rw [if_neg (by omega), n2]; exact (n1 1).trans (if_pos (by omega))))
    obtain ⟨q2, hq2, hqk2, _⟩ := nI_some ((n3 2).trans (if_pos rfl))
    have e10 : dAdd d1 2 0 = 1 := by unfold dAdd; rw [if_neg (by omega), dd0]
    have e11 : dAdd d1 2 1 = 2 := by unfold dAdd; rw [if_neg (by omega), dd1]
    have e12 : dAdd d1 2 2 = 1 := by unfold dAdd; rw [if_pos rfl]
    have HI2 := Lib.hid (ins_all hA5 T3 1 2 q1 q2 hq1 hq2 k3 t3 (by omega) (.inl ⟨hqk1, by omega⟩) (by rw [e11]; omega))
    have h3 : ∀ x, S3.hd x = S0.hd x := fun x => (h3 x).trans (h2 x)
    rw [h3, h3] at HI2
    rw [h2]
    clear hA5
    go_wp2_with fail
    refine HI2.out.mono ?_
    rintro e w5 ⟨S4, sv4, fv4, v4, rfl, hA6, g4⟩
    obtain ⟨T4, f4, l4, n4, h4, r4⟩ := g4
    have h4 : ∀ x, S4.hd x = S0.hd x := fun x => (h4 x).trans (h3 x)
    have HA6 := Lib.hid hA6
    clear hA6
    go_wp2_with fail
    go_ret2
    rw [← h4]
    have hn : ∀ y, nI S4 y = if y = 2 then some (2, sInput, [(sValue, x)].map (fun a => (a.1, fix a.2)), []) else if y = 1 then some (2, sBody, ([] : List Atr).map (fun a => (a.1, fix a.2)), []) else nI S0 y := fun y => by
      rw [n4, n3]
      split
      · rfl
      · rw [n2, n1]
    refine ⟨R, S4, sv4, fv4, _, _, rfl, HA6.out, T4, f4.trans f3, (l4.trans l3), ?_, ?_, ?_, fun e => (by cases e), ?_, ?_, ?_, ?_, ?_, ?_, ?_⟩
    · rw [hn, if_neg (by omega), if_neg (by omega)]; exact i0
    · rw [hn, if_neg (by omega), if_pos rfl]; rfl
    · rw [hn, if_pos rfl]; rfl
    · rw [kin_ne (by omega)]; exact kk0
    · rw [kin_eq, kk 1 (by omega)]; rfl
    · rw [kin_ne (by omega)]; exact k3
    · rw [kin_ne (by omega)]; exact kk 3 (by omega)
    · simp only [show (0 : Nat) ≠ 2 by omega, if_false, e10]
    · simp only [show (1 : Nat) ≠ 2 by omega, if_false, e11]
    · simp only [if_true, e11]
  | true =>
    have HM2 := Lib.hid (make_el hA3 (hL _ hA3.below) T2 f2 (by omega) 2 l2 sArea (by decide) (.slice none 0 0) [] (hnil w3) (by simp) (fun a ha => by cases ha) el_area)
    rw [h2] at HM2
    clear hA3
    go_wp2_with fail
    refine HM2.out.mono ?_
    rintro e w4 ⟨S3, sv3, fv3, rfl, hA5, g3⟩
    obtain ⟨T3, f3, l3, n3, h3, r3, k3, t3⟩ := g3
    have h3 : ∀ x, S3.hd x = S0.hd x := fun x => (h3 x).trans (h2 x)
    have HM3 := Lib.hid (make_tx hA5 (hL _ hA5.below) T3 f3 (by omega) 3 l3 x (by omega) (by omega))
    rw [h3] at HM3
    clear hA5
    go_wp2_with fail
    refine HM3.out.mono ?_
    rintro e w5 ⟨S4, sv4, fv4, rfl, hA6, g4⟩
    obtain ⟨T4, f4, l4, n4, h4, r4, k4, t4⟩ := g4
    have h4 : ∀ x, S4.hd x = S0.hd x := fun x => (h4 x).trans (h3 x)
    have hn4 : ∀ y, nI S4 y = if y = 3 then some (3, [], [], fix x) else if y = 2 then some (2, sArea, ([] : List Atr).map (fun a => (a.1, fix a.2)), []) else if y = 1 then some (2, sBody, ([] : List Atr).map (fun a => (a.1, fix a.2)), []) else nI S0 y := fun y => by
      rw [n4, n3]
      split
      · rfl
      · split
        · rfl
        · rw [n2, n1]
    obtain ⟨q1, hq1, hqk1, _⟩ := nI_some ((hn4 1).trans (by rw [if_neg (by omega), if_neg (by omega), if_pos rfl]))
    obtain ⟨q2, hq2, hqk2, _⟩ := nI_some ((hn4 2).trans (by rw [if_neg (by omega), if_pos rfl]))
    have e10 : dAdd (dAdd d1 2) 3 0 = 1 := by rw [dadd_ne (by omega), dadd_ne (by omega), dd0]
    have e11 : dAdd (dAdd d1 2) 3 1 = 2 := by rw [dadd_ne (by omega), dadd_ne (by omega), dd1]
    generalize dAdd (dAdd d1 2) 3 = d2 at *
    have HI2 := Lib.hid (ins_all hA6 T4 1 2 q1 q2 hq1 hq2 k3 t3 (by omega) (.inl ⟨hqk1, by omega⟩) (by rw [e11]; omega))
    rw [h4, h4] at HI2
    clear hA6
    go_wp2_with fail
    refine HI2.out.mono ?_
    rintro e w6 ⟨S5, sv5, fv5, v5, rfl, hA7, g5⟩
    obtain ⟨T5, f5, l5, n5, h5, r5⟩ := g5
    have h5 : ∀ x, S5.hd x = S0.hd x := fun x => (h5 x).trans (h4 x)
    obtain ⟨q2, hq2, hqk2, _⟩ := nI_some ((n5 2).trans ((hn4 2).trans (by rw [if_neg (by omega), if_pos rfl])))
    obtain ⟨q3, hq3, hqk3, _⟩ := nI_some ((n5 3).trans ((hn4 3).trans (by rw [if_pos rfl])))
    have kb0 : KIn K1 1 2 0 = [1] := by rw [kin_ne (by omega)]; exact kk0
    have kb1 : KIn K1 1 2 1 = [2] := by rw [kin_eq, kk 1 (by omega)]; rfl
    have kb2 : KIn K1 1 2 2 = [] := by rw [kin_ne (by omega)]; exact k3
    have kb3 : KIn K1 1 2 3 = [] := by rw [kin_ne (by omega)]; exact k4
    have kbt : ∀ q, 3 ∉ KIn K1 1 2 q := fun q hq => by
      rcases kin_mem hq with h | h
      · exact t4 q h
      · omega
    have db0 : (fun y => if y = 2 then d2 1 + 1 else d2 y) 0 = 1 := by simp [e10]
    have db1 : (fun y => if y = 2 then d2 1 + 1 else d2 y) 1 = 2 := by simp [e11]
    have db2 : (fun y => if y = 2 then d2 1 + 1 else d2 y) 2 = 3 := by simp [e11]
    generalize KIn K1 1 2 = K2 at *
    generalize (fun y => if y = 2 then d2 1 + 1 else d2 y) = d3 at *
    have HI3 := Lib.hid (ins_all hA7 T5 2 3 q2 q3 hq2 hq3 kb3 kbt (by omega) (.inl ⟨hqk2, by omega⟩) (by rw [db2]; omega))
    rw [h5, h5] at HI3
    clear hA7
    go_wp2_with fail
    refine HI3.out.mono ?_
    rintro e w7 ⟨S6, sv6, fv6, v6, rfl, hA8, g6⟩
    obtain ⟨T6, f6, l6, n6, h6, r6⟩ := g6
    have h6 : ∀ x, S6.hd x = S0.hd x := fun x => (h6 x).trans (h5 x)
    have HA8 := Lib.hid hA8
    clear hA8
    go_wp2_with fail
    go_ret2
    rw [← h6]
    have hn : ∀ y, nI S6 y = nI S4 y := fun y => (n6 y).trans (n5 y)
    refine ⟨R, S6, sv6, fv6, _, _, rfl, HA8.out, T6, f6.trans (f5.trans f4), (l6.trans (l5.trans l4)), ?_, ?_, ?_, fun _ => ?_, ?_, ?_, ?_, ?_, ?_, ?_, ?_⟩
    · rw [hn, hn4, if_neg (by omega), if_neg (by omega), if_neg (by omega)]; exact i0
    · rw [hn, hn4, if_neg (by omega), if_neg (by omega), if_pos rfl]; rfl
    · rw [hn, hn4, if_neg (by omega), if_pos rfl]; rfl
    · rw [hn, hn4, if_pos rfl]
    · rw [kin_ne (by omega)]; exact kb0
    · rw [kin_ne (by omega)]; exact kb1
    · rw [kin_eq, kb2]; rfl
    · rw [kin_ne (by omega)]; exact kb3
    · simp only [show (0 : Nat) ≠ 3 by omega, if_false, db0]
    · simp only [show (1 : Nat) ≠ 3 by omega, if_false, db1]
    · simp only [show (2 : Nat) ≠ 3 by omega, if_false, db2]
section
variable {B : Nat} {w0 : World} {R : Nat} {S : Tr} {sv fv : Value} {K : Nat → List Nat} {d : Nat → Nat} {x : List UInt8}
theorem std_area {w : World} (h : TAt 0 R S sv fv w) (g : SgOk true x S K d) :
    Calls Tryz.prog 60 #[.pointer (some ⟨R, 0, none⟩), .int .i64 (S.hd 2)] w fun e w' => e = .returned (.string ⟨(fix x).toArray⟩) ∧ Below w.heap.size w w' := by
  obtain ⟨n, hn, hk, hnm, hat, hdt⟩ := nI_some g.n2
  obtain ⟨m, hm, hmk, _, _, hmd⟩ := nI_some (g.n3 rfl)
  have hkn : kindN n = 2 := by unfold kindN; rw [hnm]; rfl
  have HK := Lib.hid (kind_any h g.ok.lk 2 n hn (by rw [hat]; simp))
  rw [hkn] at HK
  have hw : wlk K (128 - d 2) 2 = [2, 3] := by
    rw [g.d2]
    show 2 :: (K 2).flatMap (wlk K 124) = _
    rw [g.k2]
    show 2 :: ((3 :: (K 3).flatMap (wlk K 123)) ++ []) = _
    rw [g.k3]; rfl
  have hc : ctn S (wlk K (128 - d 2) 2) = fix x := by
    rw [hw]
    unfold ctn
    simp only [List.flatMap_cons, List.flatMap_nil, hn, hm, hk, hmk, hmd]
    simp
  obtain ⟨gg, cap, rfl⟩ := slots_some h (by have := at_lt hn; omega)
  have HC := Lib.hid (fun wx (hb : Below w.heap.size w wx) => content_some (h.below hb) g.ok.lk 2 n hn (fun y ny hy => by have := (g.ok.nd y ny hy).dl; omega) (by rw [hw]; simp))
  rw [hc] at HC
  clear h g hn hm
  generalize fix x = y at *
  go_enter Tryz.func60, Tryz.ntmps60
  go_wp2_with fail
  refine HK.out.mono ?_
  rintro e w1 ⟨rfl, hb1⟩
  go_wp2_with fail
  refine (HC.out _ hb1).mono ?_
  rintro e w2 ⟨rfl, hb2⟩
  go_wp2_with fail
  go_ret
  exact ⟨rfl, bthen hb1 hb2⟩
theorem std_input {w : World} (h : TAt 0 R S sv fv w) (g : SgOk false x S K d) :
    Calls Tryz.prog 60 #[.pointer (some ⟨R, 0, none⟩), .int .i64 (S.hd 2)] w fun e w' => e = .returned (.string ⟨(fix x).toArray⟩) ∧ Below w.heap.size w w' := by
  obtain ⟨n, hn, hk, hnm, hat, hdt⟩ := nI_some g.n2
  have hav : attV n sValue = some (fix x) := by unfold attV attL; rw [if_pos hk, hat]; rfl
  have hat' : attV n sType = none := by unfold attV attL; rw [if_pos hk, hat]; rfl
  have hkn : kindN n = 1 := by unfold kindN; rw [hnm, hat']; rfl
  have hl : n.attrs.length ≤ 1000 := by rw [hat]; simp
  have HK := Lib.hid (kind_any h g.ok.lk 2 n hn hl)
  rw [hkn] at HK
  have HA := Lib.hid (fun wx (hb : Below w.heap.size w wx) => attr_at (h.below hb) g.ok.lk 2 n hn hl sValue)
  rw [hav] at HA
  simp only [Option.getD_some, Option.isSome_some] at HA
  clear h g hn
  generalize fix x = y at *
  go_enter Tryz.func60, Tryz.ntmps60
  go_wp2_with fail
  refine HK.out.mono ?_
  rintro e w1 ⟨rfl, hb1⟩
  go_wp2_with fail
  refine (HA.out _ hb1).mono ?_
  rintro e w2 ⟨rfl, hb2⟩
  go_wp2_with fail
  go_ret
  exact ⟨rfl, bthen hb1 hb2⟩
theorem sg_fd (area : Bool) (g : SgOk area x S K d) : FdOk B w0 R (trO R S sv fv) (S.hd 2) (if area then 2 else 1) (fix x) := by
  refine ⟨fun w h hb => ?_, fun w h hb => ?_⟩
  · obtain ⟨n, hn, hk, hnm, hat, hdt⟩ := nI_some g.n2
    have h' : TAt 0 R S sv fv w := h
    have hl : n.attrs.length ≤ 1000 := by rw [hat]; cases area <;> simp
    have := kind_any h' g.ok.lk 2 n hn hl
    have hkn : kindN n = if area then 2 else 1 := by
      unfold kindN
      rw [hnm]
      cases area with
      | true => rfl
      | false =>
        have hat' : attV n sType = none := by unfold attV attL; rw [if_pos hk, hat]; rfl
        rw [hat']; rfl
    rwa [hkn] at this
  · cases area with
    | true => exact std_area h g
    | false => exact std_input h g
theorem sg_k (area : Bool) : ((if area then 2 else 1 : Nat) = 1 ∨ (if area then 2 else 1 : Nat) = 2) ∧ decide ((if area then 2 else 1 : Nat) = 2) = area := by cases area <;> decide
end
section
variable {B : Nat} {w0 w : World} {Q R k : Nat} {foc hd : Int} {v : List UInt8} {l : List Ob} {O : Ob} {F : FT}
set_option maxRecDepth 100000 in
set_option maxHeartbeats 8000000 in
theorem same_one (h : FsAt B w0 Q foc hd v l F w) (hO : O ∈ l) (hF : FdOk B w0 R O hd k v) (hk : k = 1 ∨ k = 2) (hle : F.st ≤ F.en) (hin : F.en ≤ nL F.val) (hn : F.val.length ≤ 10000000) (ar : Bool) (ua ra : Option Addr) (un uc rn rc : Nat) :
    Calls Tryz.prog 24 #[.pointer (some ⟨Q, 0, none⟩), .pointer (some ⟨R, 0, none⟩), .int .i64 hd, .agg #[.bool ar, .string ⟨F.val.toArray⟩, .int .i64 (F.st : Int), .int .i64 (F.en : Int), .slice ua un uc, .slice ra rn rc]] w fun e w' => e = .returned (.bool true) ∧ Below w.heap.size w w' := by
  have hb1 : Below w.heap.size w (w.alloc (.cells #[.bool ar, .string ⟨F.val.toArray⟩, .int .i64 (F.st : Int), .int .i64 (F.en : Int), .slice ua un uc, .slice ra rn rc] 51)) := (Below.refl _ _).alloc (Nat.le_refl _) _
  have k1 := Blk.new w [.bool ar, .string ⟨F.val.toArray⟩, .int .i64 (F.st : Int), .int .i64 (F.en : Int), .slice ua un uc, .slice ra rn rc] 51
  have HV := Lib.hid (value_one (h.still hb1) hO hF hk)
  have HS := Lib.hid (fun wx (hb : Below w.heap.size w wx) => selection_one (h.still hb) hO hF hk (by omega) hin hn)
  have HB1 := Lib.hid hb1
  clear h hO hF hb1
  go_enter Tryz.func24, Tryz.ntmps24
  go_wp2_with fail
  refine HV.out.mono ?_
  rintro e w2 ⟨rfl, hb2⟩
  have hb02 := bthen HB1.out hb2
  go_wp2_with fail
  refine (HS.out _ hb02).mono ?_
  rintro e w3 ⟨rfl, hb3⟩
  have k3 := (k1.below hb2).below hb3
  have c1 := k3.cell 1
  have c2 := k3.cell 2
  have c3 := k3.cell 3
  simp only [List.getElem?_cons_zero, List.getElem?_cons_succ] at c1 c2 c3
  have HB := Lib.hid (bthen hb02 hb3)
  have e1 : ((F.st : Int) == (F.st : Int)) = true := by simp
  have e2 : ((F.en : Int) == (F.en : Int)) = true := by simp
  clear hb2 hb3 hb02 k1 k3 HV HS HB1 hle hin
  go_wp2_with fail
  go_ret
  exact ⟨rfl, HB.out⟩
end
section
variable {R : Nat} {S : Tr} {sv fv : Value} {K : Nat → List Nat} {d : Nat → Nat} {x : List UInt8} {w : World}
theorem sg_val {area : Bool} (g : SgOk area x S K d) : ∃ n, S.at 2 = some n ∧ n.kind = 2 ∧ valN S K d 2 n = fix x := by
  obtain ⟨n, hn, hk, hnm, hat, hdt⟩ := nI_some g.n2
  refine ⟨n, hn, hk, ?_⟩
  unfold valN
  cases area with
  | true =>
    obtain ⟨m, hm, hmk, _, _, hmd⟩ := nI_some (g.n3 rfl)
    have hkn : kindN n = 2 := by unfold kindN; rw [hnm]; rfl
    have hw : wlk K (128 - d 2) 2 = [2, 3] := by
      rw [g.d2]
      show 2 :: (K 2).flatMap (wlk K 124) = _
      rw [g.k2]
      show 2 :: ((3 :: (K 3).flatMap (wlk K 123)) ++ []) = _
      rw [g.k3]; rfl
    rw [if_pos hkn, hw]
    unfold ctn
    simp only [List.flatMap_cons, List.flatMap_nil, hn, hm, hk, hmk, hmd]
    simp
  | false =>
    have hav : attL n.attrs sValue = some (fix x) := by unfold attL; rw [hat]; rfl
    have hat' : attV n sType = none := by unfold attV attL; rw [if_pos hk, hat]; rfl
    have hkn : kindN n = 1 := by unfold kindN; rw [hnm, hat']; rfl
    rw [if_neg (by rw [hkn]; omega), hav, if_neg (by simp)]
    rfl
theorem res_ed {fn : Func} (h : fn.results = #[.cell 6 51]) {tmps : Array Value} {w : World} {r : Nat} {ar : Bool} {E : RE} {uv rv : Value} (hp : tmps.getD 6 undef = .pointer (some ⟨r, 0, none⟩)) (hk : Blk w r (edC ar E uv rv) 51) :
    (results fn tmps).run Tryz.prog w = .ok (.agg (edC ar E uv rv).toArray) w := by
  have c0 := hk.cell 0
  have c1 := hk.cell 1
  have c2 := hk.cell 2
  have c3 := hk.cell 3
  have c4 := hk.cell 4
  have c5 := hk.cell 5
  simp only [edC, List.getElem?_cons_succ, List.getElem?_cons_zero] at c0 c1 c2 c3 c4 c5
  rw [Array.getD_eq_getD_getElem?] at hp
  simp [results, h, hp, go_sem, edC, c0, c1, c2, c3, c4, c5]
set_option maxRecDepth 100000 in
set_option maxHeartbeats 8000000 in
theorem begun_any {area : Bool} (h : TAt 0 R S sv fv w) (g : SgOk area x S K d) (hx : x.length ≤ 60) :
    Calls Tryz.prog 23 #[.pointer (some ⟨R, 0, none⟩), .int .i64 (S.hd 2), .bool area] w fun e w' => e = .returned (.agg (edC area ⟨⟨fix x, nL (fix x), nL (fix x)⟩, [], []⟩ (.slice none 0 0) (.slice none 0 0)).toArray) ∧ Below w.heap.size w w' := by
  obtain ⟨n, hn, hk, hv⟩ := sg_val g
  have hlen := g.len
  have hsl : S.slots.length ≤ 10000 := by rw [hlen]; split <;> omega
  have hb1 : Below w.heap.size w (w.alloc (.cells (edC false ⟨⟨[], 0, 0⟩, [], []⟩ (.slice none 0 0) (.slice none 0 0)).toArray 51)) := (Below.refl _ _).alloc (Nat.le_refl _) _
  have k1 := Blk.new w (edC false ⟨⟨[], 0, 0⟩, [], []⟩ (.slice none 0 0) (.slice none 0 0)) 51
  have HV := Lib.hid (svalue_any (h.below hb1) g.ok.lk (fun i n hi => by have := (g.ok.nd i n hi).al; omega) (fun i n hi => by have := (g.ok.nd i n hi).dl; omega) hsl 2 n hn (fun e => absurd hk e))
  rw [hv] at HV
  have hvd : Vd (fix x) := by rw [fix_rfix]; exact rfix_rfix x
  have hvl : (fix x).length ≤ 180 := by have := fix_len3 x; omega
  generalize fix x = y at *
  have HL := Lib.hid (fun wx => rlen_any y hvd wx (by omega))
  have HB1 := Lib.hid hb1
  clear h g hn hv hlen hsl hb1
  go_enter Tryz.func23, Tryz.ntmps23
  go_wp2_with fail
  refine HV.out.mono ?_
  rintro e w2 ⟨rfl, hb2⟩
  go_wp2_with fail
  refine (HL.out _).mono ?_
  rintro e w3 ⟨rfl, hb3⟩
  have k3 := (k1.below hb2).below hb3
  have HB := Lib.hid (bthen HB1.out (bthen hb2 hb3))
  have c0 := k3.cell 0
  have c1 := k3.cell 1
  have c2 := k3.cell 2
  have c3 := k3.cell 3
  have c4 := k3.cell 4
  have c5 := k3.cell 5
  have cf := k3.free
  simp only [edC, strV, List.getElem?_cons_zero, List.getElem?_cons_succ] at c0 c1 c2 c3 c4 c5
  have K3 := Lib.hid k3
  clear k1 k3 hb2 hb3 HB1 HV HL
  go_wp2_with fail
  have h9 := (((((K3.out.set 0 (.bool area)).set 1 (.string ⟨y.toArray⟩)).set 2 (.int .i64 (nL y : Int))).set 3 (.int .i64 (nL y : Int))).set 4 (.slice none 0 0)).set 5 (.slice none 0 0)
  have b9 := (((((HB.out.setCell (p := ⟨w.heap.size, 0, none⟩) (Nat.le_refl _) (.bool area)).setCell (p := ⟨w.heap.size, 1, none⟩) (Nat.le_refl _) (.string ⟨y.toArray⟩)).setCell (p := ⟨w.heap.size, 2, none⟩) (Nat.le_refl _) (.int .i64 (nL y : Int))).setCell (p := ⟨w.heap.size, 3, none⟩) (Nat.le_refl _) (.int .i64 (nL y : Int))).setCell (p := ⟨w.heap.size, 4, none⟩) (Nat.le_refl _) (.slice none 0 0)).setCell (p := ⟨w.heap.size, 5, none⟩) (Nat.le_refl _) (.slice none 0 0)
  exact bodyPost_ret (res_ed (E := ⟨⟨y, nL y, nL y⟩, [], []⟩) (by rfl) (by rfl) h9) rfl ⟨rfl, b9⟩
end
section
variable {B : Nat} {w0 w : World} {Q Z R k : Nat} {ar : Bool} {foc hd : Int} {v : List UInt8} {l l' : List Ob} {O : Ob} {F : FT} {E : RE} {L : List (Value × List (Mo × Mo))} {N : Nat}
theorem FsAt.perm (h : FsAt B w0 Q foc hd v l F w) (hp : l.Perm l') : FsAt B w0 Q foc hd v l' F w :=
  let ⟨fa, X, u, r, h1, h2, h3, h4, h5⟩ := h; ⟨fa, X, u, r, h1, h2, h3, h4, h5.perm ((hp.append_left _).append_left _)⟩
theorem FsAt.tail {o : Ob} (h : FsAt B w0 Q foc hd v (o :: l) F w) : FsAt B w0 Q foc hd v l F w := by
  obtain ⟨fa, X, u, r, h1, h2, h3, h4, h5⟩ := h
  refine ⟨fa, X, u, r, h1, h2, h3, h4, ?_⟩
  rw [← List.append_assoc] at h5 ⊢
  exact (h5.perm List.perm_middle).tail
theorem perm_three {α : Type} (a x y : α) (l : List α) : (a :: x :: y :: l).Perm (x :: y :: a :: l) := (List.Perm.swap x a _).trans ((List.Perm.swap y a _).cons x)
theorem FeAt.new {w' : World} {o : Ob} (h : FeAt B w0 Q Z ar foc hd v l F E L w) (hp : o.P w') (hb : Below w.heap.size w w') (hk : ∀ k, o.F k → w.heap.size ≤ k) : FeAt B w0 Q Z ar foc hd v (o :: l) F E L w' := by
  obtain ⟨uv, rv, h1, hu, hr⟩ := h
  exact ⟨uv, rv, (h1.new hp hb hk).perm (perm_three _ _ _ _), hu, hr⟩
theorem FeAt.drop {o : Ob} (h : FeAt B w0 Q Z ar foc hd v (o :: l) F E L w) : FeAt B w0 Q Z ar foc hd v l F E L w := by
  obtain ⟨uv, rv, h1, hu, hr⟩ := h
  exact ⟨uv, rv, (h1.perm (perm_three _ _ _ _).symm).tail, hu, hr⟩
theorem FeAt.top {o : Ob} (h : FeAt B w0 Q Z ar foc hd v (o :: l) F E L w) : o.P w := by
  obtain ⟨uv, rv, h1, hu, hr⟩ := h
  exact h1.rest.tail.tail.head
set_option maxRecDepth 100000 in
set_option maxHeartbeats 16000000 in
theorem act_any (h : FeAt B w0 Q Z ar foc hd v l F E L w) (hO : O ∈ l) (hF : FdOk B w0 R O hd k v) (hk : k = 1 ∨ k = 2) (hka : decide (k = 2) = ar) (hv : v.length ≤ 10000000) (hL : ∀ wx, Below B w0 wx → Laid wx) (hag : Ag N F E) (hN : N ≤ 100000) (o : OpF) (ho : o.In) (hs : o.s.length ≤ 20) :
    Calls Tryz.prog 25 #[.pointer (some ⟨Q, 0, none⟩), .pointer (some ⟨R, 0, none⟩), .int .i64 hd, .pointer (some ⟨Z, 0, none⟩), .agg #[.int .u8 (o.k : Int), .int .i8 o.a, .int .i8 o.b, .string ⟨o.s.toArray⟩]] w fun e w' => e = .returned (.bool true) ∧ ∃ L', L ⊆ L' ∧ FeAt B w0 Q Z ar foc hd v l (F.op ar o) (E.op ar o) L' w' := by
  unfold FT.op RE.op
  obtain ⟨ok, oa, ob, os⟩ := o
  obtain ⟨ho1, ho2, ho3⟩ := ho
  simp only at ho1 ho2 ho3 hs ⊢
  have h1 := h.new (o := bk w.heap.size [.int .u8 (ok : Int), .int .i8 oa, .int .i8 ob, .string ⟨os.toArray⟩] 39) (Blk.new w [.int .u8 (ok : Int), .int .i8 oa, .int .i8 ob, .string ⟨os.toArray⟩] 39) ((Below.refl _ _).alloc (Nat.le_refl _) _) (fun k hk => Nat.le_of_eq hk.symm)
  have hO1 : O ∈ bk w.heap.size [.int .u8 (ok : Int), .int .i8 oa, .int .i8 ob, .string ⟨os.toArray⟩] 39 :: l := List.mem_cons_of_mem _ hO
  have H1 := Lib.hid h1
  have kb : Blk (w.alloc (.cells #[.int .u8 (ok : Int), .int .i8 oa, .int .i8 ob, .string ⟨os.toArray⟩] 39)) w.heap.size [.int .u8 (ok : Int), .int .i8 oa, .int .i8 ob, .string ⟨os.toArray⟩] 39 := Blk.new w _ _
  have b1 := kb.cell 1
  have b2 := kb.cell 2
  have b3 := kb.cell 3
  simp only [List.getElem?_cons_zero, List.getElem?_cons_succ] at b1 b2 b3
  have hk4 : (ok : Int) % 8 = ((ok % 8 : Nat) : Int) := by omega
  have hk5 : Int.tmod (ok : Int) 8 = ((ok % 8 : Nat) : Int) := by rw [Int.tmod_eq_emod_of_nonneg (by omega)]; exact hk4
  have hin : ok % 8 < 8 := Nat.mod_lt _ (by omega)
  have hfn := hag.n
  have HAg := Lib.hid hag
  have HO1 := Lib.hid hO1
  have HF := Lib.hid hF
  have HL := Lib.hid hL
  clear h h1 kb hO hO1 hag hF hL
  generalize hm : ok % 8 = m at *
  go_enter Tryz.func25, Tryz.ntmps25
  rcases (show m = 0 ∨ m = 1 ∨ m = 2 ∨ m = 3 ∨ m = 4 ∨ m = 5 ∨ m = 6 ∨ m = 7 by omega) with rfl | rfl | rfl | rfl | rfl | rfl | rfl | rfl
  · simp only [Nat.reduceLT, Nat.reduceEqDiff, reduceIte]
    have HR := Lib.hid (fe_rins H1.out HAg.out hN os (by omega))
    go_wp2_with fail
    refine HR.out.mono ?_
    rintro e w2 ⟨rfl, L2, hs2, h2⟩
    have kb2 : Blk w2 w.heap.size [.int .u8 (ok : Int), .int .i8 oa, .int .i8 ob, .string ⟨os.toArray⟩] 39 := h2.top
    have d3 := kb2.cell 3
    simp only [List.getElem?_cons_zero, List.getElem?_cons_succ] at d3
    clear kb2
    have HI := Lib.hid (fe_ins h2 HO1.out HF.out hk hka hv HL.out HAg.out hN os (by omega))
    have HS2 := Lib.hid hs2
    clear h2 hs2 HR
    go_wp2_with fail
    refine HI.out.mono ?_
    rintro e w3 ⟨rfl, h3⟩
    have H3 := Lib.hid h3
    clear h3 HI
    go_wp2_with fail
    go_ret
    exact ⟨rfl, _, HS2.out, H3.out.drop⟩
  · simp only [Nat.reduceLT, Nat.reduceEqDiff, reduceIte]
    have HR := Lib.hid (fe_rins H1.out HAg.out hN os (by omega))
    go_wp2_with fail
    refine HR.out.mono ?_
    rintro e w2 ⟨rfl, L2, hs2, h2⟩
    have kb2 : Blk w2 w.heap.size [.int .u8 (ok : Int), .int .i8 oa, .int .i8 ob, .string ⟨os.toArray⟩] 39 := h2.top
    have d3 := kb2.cell 3
    simp only [List.getElem?_cons_zero, List.getElem?_cons_succ] at d3
    clear kb2
    have HI := Lib.hid (fe_ins h2 HO1.out HF.out hk hka hv HL.out HAg.out hN os (by omega))
    have HS2 := Lib.hid hs2
    clear h2 hs2 HR
    go_wp2_with fail
    refine HI.out.mono ?_
    rintro e w3 ⟨rfl, h3⟩
    have H3 := Lib.hid h3
    clear h3 HI
    go_wp2_with fail
    go_ret
    exact ⟨rfl, _, HS2.out, H3.out.drop⟩
  · simp only [Nat.reduceLT, Nat.reduceEqDiff, reduceIte]
    have HR := Lib.hid (fe_rsel H1.out HAg.out hN oa ob)
    go_wp2_with fail
    refine HR.out.mono ?_
    rintro e w2 ⟨rfl, h2⟩
    have kb2 : Blk w2 w.heap.size [.int .u8 (ok : Int), .int .i8 oa, .int .i8 ob, .string ⟨os.toArray⟩] 39 := h2.top
    have d1 := kb2.cell 1
    have d2 := kb2.cell 2
    simp only [List.getElem?_cons_zero, List.getElem?_cons_succ] at d1 d2
    clear kb2
    have HI := Lib.hid (fe_sel h2 HO1.out HF.out hk hv (by omega) oa ob)
    have HS2 := Lib.hid (fun p (hp : p ∈ L) => hp)
    clear h2 HR
    go_wp2_with fail
    refine HI.out.mono ?_
    rintro e w3 ⟨rfl, h3⟩
    have H3 := Lib.hid h3
    clear h3 HI
    go_wp2_with fail
    go_ret
    exact ⟨rfl, _, HS2.out, H3.out.drop⟩
  · simp only [Nat.reduceLT, Nat.reduceEqDiff, reduceIte]
    have HR := Lib.hid (fe_rdel H1.out HAg.out hN true)
    go_wp2_with fail
    refine HR.out.mono ?_
    rintro e w2 ⟨rfl, L2, hs2, h2⟩
    have HI := Lib.hid (fe_del h2 HO1.out HF.out hk hv HL.out HAg.out hN true)
    have HS2 := Lib.hid hs2
    clear h2 hs2 HR
    go_wp2_with fail
    refine HI.out.mono ?_
    rintro e w3 ⟨rfl, h3⟩
    have H3 := Lib.hid h3
    clear h3 HI
    go_wp2_with fail
    go_ret
    exact ⟨rfl, _, HS2.out, H3.out.drop⟩
  · simp only [Nat.reduceLT, Nat.reduceEqDiff, reduceIte]
    have HR := Lib.hid (fe_rdel H1.out HAg.out hN false)
    go_wp2_with fail
    refine HR.out.mono ?_
    rintro e w2 ⟨rfl, L2, hs2, h2⟩
    have HI := Lib.hid (fe_del h2 HO1.out HF.out hk hv HL.out HAg.out hN false)
    have HS2 := Lib.hid hs2
    clear h2 hs2 HR
    go_wp2_with fail
    refine HI.out.mono ?_
    rintro e w3 ⟨rfl, h3⟩
    have H3 := Lib.hid h3
    clear h3 HI
    go_wp2_with fail
    go_ret
    exact ⟨rfl, _, HS2.out, H3.out.drop⟩
  · simp only [Nat.reduceLT, Nat.reduceEqDiff, reduceIte]
    have HR := Lib.hid (fe_undo H1.out HO1.out HF.out hk HL.out HAg.out hN)
    go_wp2_with fail
    refine HR.out.mono ?_
    rintro e w2 ⟨rfl, h2⟩
    have HI := Lib.hid (fe_rback h2 HAg.out)
    clear h2 HR
    generalize decide (F.undo ≠ []) = q at *
    have hqq : (q == q) = true := by simp
    go_wp2_with fail
    refine HI.out.mono ?_
    rintro e w3 ⟨rfl, L3, hs3, h3⟩
    have H3 := Lib.hid h3
    have HS3 := Lib.hid hs3
    clear h3 hs3 HI
    go_wp2_with fail
    go_ret
    exact ⟨rfl, _, HS3.out, H3.out.drop⟩
  · simp only [Nat.reduceLT, Nat.reduceEqDiff, reduceIte]
    have HR := Lib.hid (fe_redo H1.out HO1.out HF.out hk HL.out HAg.out hN)
    go_wp2_with fail
    refine HR.out.mono ?_
    rintro e w2 ⟨rfl, h2⟩
    have HI := Lib.hid (fe_rforth h2 HAg.out)
    clear h2 HR
    generalize decide (F.redo ≠ []) = q at *
    have hqq : (q == q) = true := by simp
    go_wp2_with fail
    refine HI.out.mono ?_
    rintro e w3 ⟨rfl, L3, hs3, h3⟩
    have H3 := Lib.hid h3
    have HS3 := Lib.hid hs3
    clear h3 hs3 HI
    go_wp2_with fail
    go_ret
    exact ⟨rfl, _, HS3.out, H3.out.drop⟩
  · simp only [Nat.reduceLT, Nat.reduceEqDiff, reduceIte]
    have HR := Lib.hid (fe_rset H1.out os (by omega))
    go_wp2_with fail
    refine HR.out.mono ?_
    rintro e w2 ⟨rfl, L2, hs2, h2⟩
    have kb2 : Blk w2 w.heap.size [.int .u8 (ok : Int), .int .i8 oa, .int .i8 ob, .string ⟨os.toArray⟩] 39 := h2.top
    have d3 := kb2.cell 3
    simp only [List.getElem?_cons_zero, List.getElem?_cons_succ] at d3
    clear kb2
    have HI := Lib.hid (fe_set h2 HO1.out HF.out hk hka hv HL.out os (by omega))
    have HS2 := Lib.hid hs2
    clear h2 hs2 HR
    go_wp2_with fail
    refine HI.out.mono ?_
    rintro e w3 ⟨rfl, h3⟩
    have H3 := Lib.hid h3
    clear h3 HI
    go_wp2_with fail
    go_ret
    exact ⟨rfl, _, HS2.out, H3.out.drop⟩
end
section
variable {B : Nat} {w0 w : World} {Q R : Nat} {hd : Int} {l : List Ob} {v : List UInt8}
theorem FsAt.start (h : All B w0 (bk Q [.slice none 0 0, .int .i64 0] 30 :: l) w) (hd : Int) (v : List UInt8) : FsAt B w0 Q 0 hd v l (FT.of v) w := by
  refine ⟨.slice none 0 0, [], .slice none 0 0, .slice none 0 0, FInv.nil hd v, rfl, rfl, rfl, ?_⟩
  have h1 := h.nil 119 9
  have n0 : ∀ {l : List Ob}, All B w0 l w → All B w0 (ro 126 5 (.slice none 0 0) 0 [] :: l) w := fun hx => hx.new (Ro.nil w _ _) (Below.refl _ _) (fun k hk => hk.elim)
  have h2 := n0 (n0 h1)
  exact h2.perm (List.Perm.append_right l (l₁ := [_, _, _, _]) (List.reverse_perm [_, _, _, _]).symm)
theorem fok_of {N : Nat} (h : Vd v) (hN : v.length ≤ N) : FOk N (FT.of v) := ⟨h, Nat.le_refl _, Nat.le_refl _, hN, by simp [FT.of]⟩
end
set_option maxRecDepth 100000 in
set_option maxHeartbeats 4000000 in
theorem awake_any (w : World) (hT : Laid w) : Calls Tryz.prog 12 #[] w fun e w' => e = .returned (.bool true) ∧ Below w.heap.size w w' := by
  have hL : ∀ wx, Below w.heap.size w wx → Laid wx := fun wx hb => hT.below hb
  have HL := Lib.hid hL
  have HS := Lib.hid (single_any (All.start w) hL false [97, 98] (by decide))
  have hfx : fix [97, 98] = [97, 98] := by kernel_rfl
  have hvd : Vd [97, 98] := show rfix [97, 98] = [97, 98] by kernel_rfl
  clear hT hL
  go_enter Tryz.func12, Tryz.ntmps12
  go_wp2_with fail
  refine HS.out.mono ?_
  rintro e w1 ⟨R, S, sv, fv, K, d, rfl, hA1, hg⟩
  have hF : FdOk w.heap.size w R (trO R S sv fv) (S.hd 2) 1 (fix [97, 98]) := sg_fd false hg
  rw [hfx] at hF
  have hA2 := hA1.newBkA w1.heap.size rfl [.slice none 0 0, .int .i64 0] 30
  have hs := FsAt.start hA2 (S.hd 2) [97, 98]
  have HI := Lib.hid (insert_one hs (by simp) hF (.inl rfl) (by decide) HL.out (fok_of (N := 100) hvd (by decide)) (by omega) [99] (by decide))
  have hval : ((FT.of [97, 98]).ins (cleanL (decide (1 = 2)) [99])).val = [97, 98, 99] := by kernel_rfl
  clear hA1 hA2 hs HS
  generalize hd : S.hd 2 = hd at *
  go_wp2_with fail
  refine HI.out.mono ?_
  rintro e w2 ⟨rfl, hs2⟩
  have HV := Lib.hid (value_one hs2 (by simp) hF (.inl rfl))
  rw [hval] at HV
  have HB := Lib.hid hs2.rest.below
  clear hs2 hval
  go_wp2_with fail
  refine HV.out.mono ?_
  rintro e w3 ⟨rfl, hb3⟩
  go_wp2_with fail
  go_ret
  exact ⟨rfl, bthen HB.out hb3⟩
end Go.Proofs.YtacdbnhnhdlmpaaGreatDoor.W
end
