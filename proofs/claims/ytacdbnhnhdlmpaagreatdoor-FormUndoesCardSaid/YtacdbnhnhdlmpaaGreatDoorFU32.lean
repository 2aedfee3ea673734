/- Texts joined: Sgl SgF Awk FmV FmU Close. -/
import Derived.Test.YtacdbnhnhdlmpaaGreatDoorFU31
import Derived.Test.YtacdbnhnhdlmpaaGreatDoorFU15
import Derived.Test.YtacdbnhnhdlmpaaGreatDoorFU21
import Derived.Test.YtacdbnhnhdlmpaaGreatDoorFU14
import Derived.Test.YtacdbnhnhdlmpaaGreatDoorFU19
import Derived.Test.YtacdbnhnhdlmpaaGreatDoorRows
import Derived.WalkKit
import Derived.ProofKit
import Derived.OpenShut
import Derived.Lib.SmallJoins
set_option maxRecDepth 100000
set_option maxHeartbeats 40000000
set_option linter.unusedVariables false
set_option linter.unusedSimpArgs false
section
namespace Go.Proofs.YtacdbnhnhdlmpaaGreatDoor.W
open Go.RowKit
def sBody : List UInt8 := [98, 111, 100, 121]
structure SgOk (area : Bool) (x : List UInt8) (S : Tr) (K : Nat → List Nat) (d : Nat → Nat) : Prop where
  ok : TrOk 1 S K d
  fr : S.free = []
  len : S.slots.length = if area then 4 else 3
  n0 : nI S 0 = some (1, [], [], [])
  n1 : nI S 1 = some (2, sBody, [], [])
  n2 : nI S 2 = some (2, if area then sArea else sInput, if area then [] else [(sValue, fix x)], [])
  n3 : area = true → nI S 3 = some (3, [], [], fix x)
  k0 : K 0 = [1]
  k1 : K 1 = [2]
  k2 : K 2 = if area then [3] else []
  k3 : K 3 = []
  d0 : d 0 = 1
  d1 : d 1 = 2
  d2 : d 2 = 3
theorem rfix_len3 (n : Nat) : ∀ l : List UInt8, l.length ≤ n → (rfix l).length ≤ 3 * l.length := by
  induction n with
  | zero =>
    intro l h
    have : l = [] := List.eq_nil_of_length_eq_zero (by omega)
    subst this
    rw [rfix_nil]; simp
  | succ n ih =>
    intro l h
    by_cases hne : l = []
    · subst hne; rw [rfix_nil]; simp
    · have hl : 0 < l.length := List.length_pos_iff.2 hne
      rw [rfix_step l hne]
      split
      · have := ih (l.drop 1) (by rw [List.length_drop]; omega)
        rw [List.length_drop] at this
        simp only [List.length_append, List.length_cons, List.length_nil]
        omega
      · rename_i h0
        have := ih (l.drop (szL l)) (by rw [List.length_drop]; omega)
        rw [List.length_drop] at this
        rw [List.length_append, List.length_take]
        omega
theorem fix_len3 (l : List UInt8) : (fix l).length ≤ 3 * l.length := by rw [fix_rfix]; exact rfix_len3 l.length l (Nat.le_refl _)
theorem kin_ne {K : Nat → List Nat} {p i q : Nat} (h : q ≠ p) : KIn K p i q = K q := if_neg h
theorem kin_eq {K : Nat → List Nat} {p i : Nat} : KIn K p i p = K p ++ [i] := if_pos rfl
theorem kin_mem {K : Nat → List Nat} {p i q x : Nat} (h : x ∈ KIn K p i q) : x ∈ K q ∨ x = i := by
  unfold KIn at h
  split at h
  · rename_i e; subst e
    rcases List.mem_append.1 h with h | h
    · exact .inl h
    · exact .inr (by simpa using h)
  · exact .inl h
theorem dadd_ne {d : Nat → Nat} {s x : Nat} (h : x ≠ s) : dAdd d s x = d x := if_neg h
theorem el_body : (elmB sBody && namesB []) = true := by kernel_rfl
theorem el_input (x : List UInt8) : (elmB sInput && namesB [(sValue, x)]) = true := by kernel_rfl
theorem el_area : (elmB sArea && namesB []) = true := by kernel_rfl
set_option maxRecDepth 100000 in
set_option maxHeartbeats 8000000 in
theorem single_any {B : Nat} {w0 w : World} {l : List Ob} (h : All B w0 l w) (hL : ∀ wx, Below B w0 wx → Laid wx) (area : Bool) (x : List UInt8) (hx : x.length ≤ 60) :
    Calls Tryz.prog 14 #[.bool area, .string ⟨x.toArray⟩] w fun e w' => ∃ R S sv fv K d, e = .returned (.tuple #[.pointer (some ⟨R, 0, none⟩), .int .i64 (S.hd 2)]) ∧ All B w0 (trO R S sv fv :: l) w' ∧ SgOk area x S K d := by
  have hfx := fix_len3 x
  have HNew := Lib.hid (tree_newA h 7 2)
  have hnil : ∀ wx, Own wx 85 2 (.slice none 0 0) ([] : List Atr).length (attrC []) := fun wx => World.ownsRow_nil _ _ _ _
  clear h
  have i0 : nI (newT 7 2) 0 = some (1, [], [], []) := rfl
  have l0 : (newT 7 2).slots.length = 1 := rfl
  have T0 := newT_ok 7 2
  have f0 : (newT 7 2).free = [] := rfl
  have r0 : (newT 7 2).root = (newT 7 2).hd 0 := rfl
  have hK0 : ∀ q, (fun _ : Nat => ([] : List Nat)) q = [] := fun _ => rfl
  have hd0 : ∀ q, (fun _ : Nat => (1 : Nat)) q = 1 := fun _ => rfl
  generalize newT 7 2 = S0 at *
  generalize (fun _ : Nat => ([] : List Nat)) = K0 at *
  generalize (fun _ : Nat => (1 : Nat)) = d0 at *
  go_enter Tryz.func14, Tryz.ntmps14
  go_wp2_with fail
  refine HNew.out.mono ?_
  rintro e w1 ⟨R, sv0, rfl, hA1⟩
  have HM1 := Lib.hid (make_el hA1 (hL _ hA1.below) T0 f0 (by omega) 1 l0 sBody (by decide) (.slice none 0 0) [] (hnil w1) (by simp) (fun a ha => by cases ha) el_body)
  clear hA1
  go_wp2_with fail
  refine HM1.out.mono ?_
  rintro e w2 ⟨S1, sv1, fv1, rfl, hA2, g1⟩
  obtain ⟨T1, f1, l1, n1, h1, r1, k1, t1⟩ := g1
  obtain ⟨p0, hp0, hk0, _⟩ := nI_some ((n1 0).trans (by rw [if_neg (by omega)]; exact i0))
  obtain ⟨p1, hp1, hk1, _⟩ := nI_some ((n1 1).trans (if_pos (by omega)))
  have e00 : dAdd d0 1 0 = 1 := by unfold dAdd; rw [if_neg (by omega), hd0]
  have e01 : dAdd d0 1 1 = 1 := by unfold dAdd; rw [if_pos rfl]
  have HI1 := Lib.hid (ins_all hA2 T1 0 1 p0 p1 hp0 hp1 k1 t1 (by omega) (.inr ⟨hk0, hk1, hK0 0⟩) (by rw [e00]; omega))
  have c5 := (show TAt 0 R S1 sv1 fv1 w2 from hA2.head).blk.cell 5
  simp only [List.getElem?_cons_succ, List.getElem?_cons_zero] at c5
  rw [r1, r0] at c5
  rw [h1, h1] at HI1
  clear hA2
  go_wp2_with fail
  refine HI1.out.mono ?_
  rintro e w3 ⟨S2, sv2, fv2, v2, rfl, hA3, g2⟩
  obtain ⟨T2, f2, l2, n2, h2, r2⟩ := g2
  have kk0 : KIn K0 0 1 0 = [1] := by unfold KIn; rw [if_pos rfl, hK0]; rfl
  have kk : ∀ q, q ≠ 0 → KIn K0 0 1 q = [] := fun q hq => by unfold KIn; rw [if_neg hq, hK0]
  have dd0 : (fun x => if x = 1 then dAdd d0 1 0 + 1 else dAdd d0 1 x) 0 = 1 := by simp [e00]
  have dd1 : (fun x => if x = 1 then dAdd d0 1 0 + 1 else dAdd d0 1 x) 1 = 2 := by simp [e00]
  generalize KIn K0 0 1 = K1 at *
  generalize (fun x => if x = 1 then dAdd d0 1 0 + 1 else dAdd d0 1 x) = d1 at *
  rw [l1] at l2
  rw [f1] at f2
  have h2 : ∀ x, S2.hd x = S0.hd x := fun x => (h2 x).trans (h1 x)
  cases area with
  | false =>
    have hA4 := hA3.alloc (.cells #[.string ⟨sValue.toArray⟩, .string ⟨x.toArray⟩] 85)
    have HM2 := Lib.hid (make_el hA4 (hL _ hA4.below) T2 f2 (by omega) 2 l2 sInput (by decide) (.slice (some ⟨w3.heap.size, 0, none⟩) 1 1) [(sValue, x)] (own_at (n := 1) (size := 2) (Blk.new w3 (attrC [(sValue, x)]) 85) rfl (by omega)) (by simp) (fun a ha => by simp only [List.mem_singleton] at ha; subst ha; exact ⟨by show sValue.length ≤ 200; decide, by simp only; omega, by simp only; omega⟩) (el_input x))
    clear hA3 hA4
    go_wp2_with fail
    refine HM2.out.mono ?_
    rintro e w4 ⟨S3, sv3, fv3, rfl, hA5, g3⟩
    obtain ⟨T3, f3, l3, n3, h3, r3, k3, t3⟩ := g3
    obtain ⟨q1, hq1, hqk1, _⟩ := nI_some ((n3 1).trans (by rw [if_neg (by omega), n2]; exact (n1 1).trans (if_pos (by omega))))
    obtain ⟨q2, hq2, hqk2, _⟩ := nI_some ((n3 2).trans (if_pos rfl))
    have e10 : dAdd d1 2 0 = 1 := by unfold dAdd; rw [if_neg (by omega), dd0]
    have e11 : dAdd d1 2 1 = 2 := by unfold dAdd; rw [if_neg (by omega), dd1]
    have e12 : dAdd d1 2 2 = 1 := by unfold dAdd; rw [if_pos rfl]
    have HI2 := Lib.hid (ins_all hA5 T3 1 2 q1 q2 hq1 hq2 k3 t3 (by omega) (.inl ⟨hqk1, by omega⟩) (by rw [e11]; omega))
    have h3 : ∀ x, S3.hd x = S0.hd x := fun x => (h3 x).trans (h2 x)
    rw [h3, h3] at HI2
    rw [h2]
    clear hA5
    go_wp2_with fail
    refine HI2.out.mono ?_
    rintro e w5 ⟨S4, sv4, fv4, v4, rfl, hA6, g4⟩
    obtain ⟨T4, f4, l4, n4, h4, r4⟩ := g4
    have h4 : ∀ x, S4.hd x = S0.hd x := fun x => (h4 x).trans (h3 x)
    have HA6 := Lib.hid hA6
    clear hA6
    go_wp2_with fail
    go_ret2
    rw [← h4]
    have hn : ∀ y, nI S4 y = if y = 2 then some (2, sInput, [(sValue, x)].map (fun a => (a.1, fix a.2)), []) else if y = 1 then some (2, sBody, ([] : List Atr).map (fun a => (a.1, fix a.2)), []) else nI S0 y := fun y => by
      rw [n4, n3]
      split
      · rfl
      · rw [n2, n1]
    refine ⟨R, S4, sv4, fv4, _, _, rfl, HA6.out, T4, f4.trans f3, (l4.trans l3), ?_, ?_, ?_, fun e => (by cases e), ?_, ?_, ?_, ?_, ?_, ?_, ?_⟩
    · rw [hn, if_neg (by omega), if_neg (by omega)]; exact i0
    · rw [hn, if_neg (by omega), if_pos rfl]; rfl
    · rw [hn, if_pos rfl]; rfl
    · rw [kin_ne (by omega)]; exact kk0
    · rw [kin_eq, kk 1 (by omega)]; rfl
    · rw [kin_ne (by omega)]; exact k3
    · rw [kin_ne (by omega)]; exact kk 3 (by omega)
    · simp only [show (0 : Nat) ≠ 2 by omega, if_false, e10]
    · simp only [show (1 : Nat) ≠ 2 by omega, if_false, e11]
    · simp only [if_true, e11]
  | true =>
    have HM2 := Lib.hid (make_el hA3 (hL _ hA3.below) T2 f2 (by omega) 2 l2 sArea (by decide) (.slice none 0 0) [] (hnil w3) (by simp) (fun a ha => by cases ha) el_area)
    rw [h2] at HM2
    clear hA3
    go_wp2_with fail
    refine HM2.out.mono ?_
    rintro e w4 ⟨S3, sv3, fv3, rfl, hA5, g3⟩
    obtain ⟨T3, f3, l3, n3, h3, r3, k3, t3⟩ := g3
    have h3 : ∀ x, S3.hd x = S0.hd x := fun x => (h3 x).trans (h2 x)
    have HM3 := Lib.hid (make_tx hA5 (hL _ hA5.below) T3 f3 (by omega) 3 l3 x (by omega) (by omega))
    rw [h3] at HM3
    clear hA5
    go_wp2_with fail
    refine HM3.out.mono ?_
    rintro e w5 ⟨S4, sv4, fv4, rfl, hA6, g4⟩
    obtain ⟨T4, f4, l4, n4, h4, r4, k4, t4⟩ := g4
    have h4 : ∀ x, S4.hd x = S0.hd x := fun x => (h4 x).trans (h3 x)
    have hn4 : ∀ y, nI S4 y = if y = 3 then some (3, [], [], fix x) else if y = 2 then some (2, sArea, ([] : List Atr).map (fun a => (a.1, fix a.2)), []) else if y = 1 then some (2, sBody, ([] : List Atr).map (fun a => (a.1, fix a.2)), []) else nI S0 y := fun y => by
      rw [n4, n3]
      split
      · rfl
      · split
        · rfl
        · rw [n2, n1]
    obtain ⟨q1, hq1, hqk1, _⟩ := nI_some ((hn4 1).trans (by rw [if_neg (by omega), if_neg (by omega), if_pos rfl]))
    obtain ⟨q2, hq2, hqk2, _⟩ := nI_some ((hn4 2).trans (by rw [if_neg (by omega), if_pos rfl]))
    have e10 : dAdd (dAdd d1 2) 3 0 = 1 := by rw [dadd_ne (by omega), dadd_ne (by omega), dd0]
    have e11 : dAdd (dAdd d1 2) 3 1 = 2 := by rw [dadd_ne (by omega), dadd_ne (by omega), dd1]
    generalize dAdd (dAdd d1 2) 3 = d2 at *
    have HI2 := Lib.hid (ins_all hA6 T4 1 2 q1 q2 hq1 hq2 k3 t3 (by omega) (.inl ⟨hqk1, by omega⟩) (by rw [e11]; omega))
    rw [h4, h4] at HI2
    clear hA6
    go_wp2_with fail
    refine HI2.out.mono ?_
    rintro e w6 ⟨S5, sv5, fv5, v5, rfl, hA7, g5⟩
    obtain ⟨T5, f5, l5, n5, h5, r5⟩ := g5
    have h5 : ∀ x, S5.hd x = S0.hd x := fun x => (h5 x).trans (h4 x)
    obtain ⟨q2, hq2, hqk2, _⟩ := nI_some ((n5 2).trans ((hn4 2).trans (by rw [if_neg (by omega), if_pos rfl])))
    obtain ⟨q3, hq3, hqk3, _⟩ := nI_some ((n5 3).trans ((hn4 3).trans (by rw [if_pos rfl])))
    have kb0 : KIn K1 1 2 0 = [1] := by rw [kin_ne (by omega)]; exact kk0
    have kb1 : KIn K1 1 2 1 = [2] := by rw [kin_eq, kk 1 (by omega)]; rfl
    have kb2 : KIn K1 1 2 2 = [] := by rw [kin_ne (by omega)]; exact k3
    have kb3 : KIn K1 1 2 3 = [] := by rw [kin_ne (by omega)]; exact k4
    have kbt : ∀ q, 3 ∉ KIn K1 1 2 q := fun q hq => by
      rcases kin_mem hq with h | h
      · exact t4 q h
      · omega
    have db0 : (fun y => if y = 2 then d2 1 + 1 else d2 y) 0 = 1 := by simp [e10]
    have db1 : (fun y => if y = 2 then d2 1 + 1 else d2 y) 1 = 2 := by simp [e11]
    have db2 : (fun y => if y = 2 then d2 1 + 1 else d2 y) 2 = 3 := by simp [e11]
    generalize KIn K1 1 2 = K2 at *
    generalize (fun y => if y = 2 then d2 1 + 1 else d2 y) = d3 at *
    have HI3 := Lib.hid (ins_all hA7 T5 2 3 q2 q3 hq2 hq3 kb3 kbt (by omega) (.inl ⟨hqk2, by omega⟩) (by rw [db2]; omega))
    rw [h5, h5] at HI3
    clear hA7
    go_wp2_with fail
    refine HI3.out.mono ?_
    rintro e w7 ⟨S6, sv6, fv6, v6, rfl, hA8, g6⟩
    obtain ⟨T6, f6, l6, n6, h6, r6⟩ := g6
    have h6 : ∀ x, S6.hd x = S0.hd x := fun x => (h6 x).trans (h5 x)
    have HA8 := Lib.hid hA8
    clear hA8
    go_wp2_with fail
    go_ret2
    rw [← h6]
    have hn : ∀ y, nI S6 y = nI S4 y := fun y => (n6 y).trans (n5 y)
    refine ⟨R, S6, sv6, fv6, _, _, rfl, HA8.out, T6, f6.trans (f5.trans f4), (l6.trans (l5.trans l4)), ?_, ?_, ?_, fun _ => ?_, ?_, ?_, ?_, ?_, ?_, ?_, ?_⟩
    · rw [hn, hn4, if_neg (by omega), if_neg (by omega), if_neg (by omega)]; exact i0
    · rw [hn, hn4, if_neg (by omega), if_neg (by omega), if_pos rfl]; rfl
    · rw [hn, hn4, if_neg (by omega), if_pos rfl]; rfl
    · rw [hn, hn4, if_pos rfl]
    · rw [kin_ne (by omega)]; exact kb0
    · rw [kin_ne (by omega)]; exact kb1
    · rw [kin_eq, kb2]; rfl
    · rw [kin_ne (by omega)]; exact kb3
    · simp only [show (0 : Nat) ≠ 3 by omega, if_false, db0]
    · simp only [show (1 : Nat) ≠ 3 by omega, if_false, db1]
    · simp only [show (2 : Nat) ≠ 3 by omega, if_false, db2]
section
variable {B : Nat} {w0 : World} {R : Nat} {S : Tr} {sv fv : Value} {K : Nat → List Nat} {d : Nat → Nat} {x : List UInt8}
theorem std_area {w : World} (h : TAt 0 R S sv fv w) (g : SgOk true x S K d) :
    Calls Tryz.prog 60 #[.pointer (some ⟨R, 0, none⟩), .int .i64 (S.hd 2)] w fun e w' => e = .returned (.string ⟨(fix x).toArray⟩) ∧ Below w.heap.size w w' := by
  obtain ⟨n, hn, hk, hnm, hat, hdt⟩ := nI_some g.n2
  obtain ⟨m, hm, hmk, _, _, hmd⟩ := nI_some (g.n3 rfl)
  have hkn : kindN n = 2 := by unfold kindN; rw [hnm]; rfl
  have HK := Lib.hid (kind_any h g.ok.lk 2 n hn (by rw [hat]; simp))
  rw [hkn] at HK
  have hw : wlk K (128 - d 2) 2 = [2, 3] := by
    rw [g.d2]
    show 2 :: (K 2).flatMap (wlk K 124) = _
    rw [g.k2]
    show 2 :: ((3 :: (K 3).flatMap (wlk K 123)) ++ []) = _
    rw [g.k3]; rfl
  have hc : ctn S (wlk K (128 - d 2) 2) = fix x := by
    rw [hw]
    unfold ctn
    simp only [List.flatMap_cons, List.flatMap_nil, hn, hm, hk, hmk, hmd]
    simp
  obtain ⟨gg, cap, rfl⟩ := slots_some h (by have := at_lt hn; omega)
  have HC := Lib.hid (fun wx (hb : Below w.heap.size w wx) => content_some (h.below hb) g.ok.lk 2 n hn (fun y ny hy => by have := (g.ok.nd y ny hy).dl; omega) (by rw [hw]; simp))
  rw [hc] at HC
  clear h g hn hm
  generalize fix x = y at *
  go_enter Tryz.func60, Tryz.ntmps60
  go_wp2_with fail
  refine HK.out.mono ?_
  rintro e w1 ⟨rfl, hb1⟩
  go_wp2_with fail
  refine (HC.out _ hb1).mono ?_
  rintro e w2 ⟨rfl, hb2⟩
  go_wp2_with fail
  go_ret
  exact ⟨rfl, bthen hb1 hb2⟩
theorem std_input {w : World} (h : TAt 0 R S sv fv w) (g : SgOk false x S K d) :
    Calls Tryz.prog 60 #[.pointer (some ⟨R, 0, none⟩), .int .i64 (S.hd 2)] w fun e w' => e = .returned (.string ⟨(fix x).toArray⟩) ∧ Below w.heap.size w w' := by
  obtain ⟨n, hn, hk, hnm, hat, hdt⟩ := nI_some g.n2
  have hav : attV n sValue = some (fix x) := by unfold attV attL; rw [if_pos hk, hat]; rfl
  have hat' : attV n sType = none := by unfold attV attL; rw [if_pos hk, hat]; rfl
  have hkn : kindN n = 1 := by unfold kindN; rw [hnm, hat']; rfl
  have hl : n.attrs.length ≤ 1000 := by rw [hat]; simp
  have HK := Lib.hid (kind_any h g.ok.lk 2 n hn hl)
  rw [hkn] at HK
  have HA := Lib.hid (fun wx (hb : Below w.heap.size w wx) => attr_at (h.below hb) g.ok.lk 2 n hn hl sValue)
  rw [hav] at HA
  simp only [Option.getD_some, Option.isSome_some] at HA
  clear h g hn
  generalize fix x = y at *
  go_enter Tryz.func60, Tryz.ntmps60
  go_wp2_with fail
  refine HK.out.mono ?_
  rintro e w1 ⟨rfl, hb1⟩
  go_wp2_with fail
  refine (HA.out _ hb1).mono ?_
  rintro e w2 ⟨rfl, hb2⟩
  go_wp2_with fail
  go_ret
  exact ⟨rfl, bthen hb1 hb2⟩
theorem sg_fd (area : Bool) (g : SgOk area x S K d) : FdOk B w0 R (trO R S sv fv) (S.hd 2) (if area then 2 else 1) (fix x) := by
  refine ⟨fun w h hb => ?_, fun w h hb => ?_⟩
  · obtain ⟨n, hn, hk, hnm, hat, hdt⟩ := nI_some g.n2
    have h' : TAt 0 R S sv fv w := h
    have hl : n.attrs.length ≤ 1000 := by rw [hat]; cases area <;> simp
    have := kind_any h' g.ok.lk 2 n hn hl
    have hkn : kindN n = if area then 2 else 1 := by
      unfold kindN
      rw [hnm]
      cases area with
      | true => rfl
      | false =>
        have hat' : attV n sType = none := by unfold attV attL; rw [if_pos hk, hat]; rfl
        rw [hat']; rfl
    rwa [hkn] at this
  · cases area with
    | true => exact std_area h g
    | false => exact std_input h g
theorem sg_k (area : Bool) : ((if area then 2 else 1 : Nat) = 1 ∨ (if area then 2 else 1 : Nat) = 2) ∧ decide ((if area then 2 else 1 : Nat) = 2) = area := by cases area <;> decide
end
section
variable {B : Nat} {w0 w : World} {Q R : Nat} {hd : Int} {l : List Ob} {v : List UInt8}
theorem FsAt.start (h : All B w0 (bk Q [.slice none 0 0, .int .i64 0] 30 :: l) w) (hd : Int) (v : List UInt8) : FsAt B w0 Q 0 hd v l (FT.of v) w := by
  refine ⟨.slice none 0 0, [], .slice none 0 0, .slice none 0 0, FInv.nil hd v, rfl, rfl, rfl, ?_⟩
  have h1 := h.nil 119 9
  have n0 : ∀ {l : List Ob}, All B w0 l w → All B w0 (ro 126 5 (.slice none 0 0) 0 [] :: l) w := fun hx => hx.new (Ro.nil w _ _) (Below.refl _ _) (fun k hk => hk.elim)
  have h2 := n0 (n0 h1)
  exact h2.perm (List.Perm.append_right l (l₁ := [_, _, _, _]) (List.reverse_perm [_, _, _, _]).symm)
theorem fok_of {N : Nat} (h : Vd v) (hN : v.length ≤ N) : FOk N (FT.of v) := ⟨h, Nat.le_refl _, Nat.le_refl _, hN, by simp [FT.of]⟩
end
set_option maxRecDepth 100000 in
set_option maxHeartbeats 4000000 in
theorem awake_any (w : World) (hT : Laid w) : Calls Tryz.prog 12 #[] w fun e w' => e = .returned (.bool true) ∧ Below w.heap.size w w' := by
  have hL : ∀ wx, Below w.heap.size w wx → Laid wx := fun wx hb => hT.below hb
  have HL := Lib.hid hL
  have HS := Lib.hid (single_any (All.start w) hL false [97, 98] (by decide))
  have hfx : fix [97, 98] = [97, 98] := by kernel_rfl
  have hvd : Vd [97, 98] := show rfix [97, 98] = [97, 98] by kernel_rfl
  clear hT hL
  go_enter Tryz.func12, Tryz.ntmps12
  go_wp2_with fail
  refine HS.out.mono ?_
  rintro e w1 ⟨R, S, sv, fv, K, d, rfl, hA1, hg⟩
  have hF : FdOk w.heap.size w R (trO R S sv fv) (S.hd 2) 1 (fix [97, 98]) := sg_fd false hg
  rw [hfx] at hF
  have hA2 := hA1.newBkA w1.heap.size rfl [.slice none 0 0, .int .i64 0] 30
  have hs := FsAt.start hA2 (S.hd 2) [97, 98]
  have HI := Lib.hid (insert_one hs (by simp) hF (.inl rfl) (by decide) HL.out (fok_of (N := 100) hvd (by decide)) (by omega) [99] (by decide))
  have hval : ((FT.of [97, 98]).ins (cleanL (decide (1 = 2)) [99])).val = [97, 98, 99] := by kernel_rfl
  clear hA1 hA2 hs HS
  generalize hd : S.hd 2 = hd at *
  go_wp2_with fail
  refine HI.out.mono ?_
  rintro e w2 ⟨rfl, hs2⟩
  have HV := Lib.hid (value_one hs2 (by simp) hF (.inl rfl))
  rw [hval] at HV
  have HB := Lib.hid hs2.rest.below
  clear hs2 hval
  go_wp2_with fail
  refine HV.out.mono ?_
  rintro e w3 ⟨rfl, hb3⟩
  go_wp2_with fail
  go_ret
  exact ⟨rfl, bthen HB.out hb3⟩
def RE.vals (E : RE) : List (List UInt8) := E.undo.map (·.1.val) ++ [E.now.val]
theorem RE.vals_len (E : RE) : E.vals.length = E.undo.length + 1 := by simp [RE.vals]
def Vs (vs : List (List UInt8)) (E : RE) : Prop := vs ≠ [] ∧ E.vals = vs.drop (vs.length - 1 - min (vs.length - 1) 100)
theorem Vs.len {vs : List (List UInt8)} {E : RE} (h : Vs vs E) : E.undo.length = min (vs.length - 1) 100 := by
  have := congrArg List.length h.2
  have h1 : 0 < vs.length := List.length_pos_iff.2 h.1
  rw [E.vals_len, List.length_drop] at this
  omega
theorem Vs.of (E : RE) (h : E.undo = []) : Vs [E.now.val] E := by
  refine ⟨by simp, ?_⟩
  unfold RE.vals
  rw [h]
  rfl
theorem Vs.at {vs : List (List UInt8)} {E : RE} (h : Vs vs E) {j : Nat} : E.vals[j]? = vs[vs.length - 1 - min (vs.length - 1) 100 + j]? := by
  rw [h.2, List.getElem?_drop]
theorem Vs.push {vs : List (List UInt8)} {E : RE} (h : Vs vs E) (c : Mo) : Vs (vs ++ [c.val]) ⟨c, keepE (E.undo ++ [(E.now, c)]), []⟩ := by
  have h1 : 0 < vs.length := List.length_pos_iff.2 h.1
  have hl := h.len
  refine ⟨by simp, ?_⟩
  have e : (keepE (E.undo ++ [(E.now, c)])).map (·.1.val) = keepE E.vals := by
    unfold keepE RE.vals
    rw [List.map_drop, List.map_append]
    simp
  show (keepE (E.undo ++ [(E.now, c)])).map (·.1.val) ++ [c.val] = _
  rw [e]
  unfold keepE
  rw [E.vals_len, h.2, List.drop_drop, List.length_append, List.length_singleton, hl, List.drop_append_of_le_length (by omega)]
  congr 2
  omega
theorem Vs.keep {vs : List (List UInt8)} {E E' : RE} (h : Vs vs E) (h1 : E'.undo = E.undo) (h2 : E'.now.val = E.now.val) : Vs vs E' := by
  refine ⟨h.1, ?_⟩
  rw [← h.2]
  unfold RE.vals
  rw [h1, h2]
def RE.bkN (E : RE) : Nat → RE
  | 0 => E
  | k + 1 => (E.bkN k).back
def RE.fwN (E : RE) : Nat → RE
  | 0 => E
  | k + 1 => (E.fwN k).forth
theorem bkN_is (E : RE) (hr : E.redo = []) : ∀ k, k ≤ E.undo.length → (E.bkN k).undo = E.undo.take (E.undo.length - k) ∧ (E.bkN k).redo = (E.undo.drop (E.undo.length - k)).reverse ∧ E.vals[E.undo.length - k]? = some (E.bkN k).now.val
  | 0, _ => by
    refine ⟨by simp [RE.bkN], by simp [RE.bkN, hr], ?_⟩
    unfold RE.vals RE.bkN
    rw [List.getElem?_append_right (by simp)]
    simp
  | k + 1, h => by
    obtain ⟨h1, h2, h3⟩ := bkN_is E hr k (by omega)
    have hj : E.undo.length - (k + 1) < E.undo.length := by omega
    have e1 : E.undo.take (E.undo.length - k) = E.undo.take (E.undo.length - (k + 1)) ++ [E.undo[E.undo.length - (k + 1)]] := by
      rw [show E.undo.length - k = (E.undo.length - (k + 1)) + 1 by omega, List.take_succ_eq_append_getElem hj]
    have e2 : E.undo.drop (E.undo.length - (k + 1)) = E.undo[E.undo.length - (k + 1)] :: E.undo.drop (E.undo.length - k) := by
      rw [List.drop_eq_getElem_cons hj, show E.undo.length - (k + 1) + 1 = E.undo.length - k by omega]
    show (E.bkN k).back.undo = _ ∧ (E.bkN k).back.redo = _ ∧ _ = some (E.bkN k).back.now.val
    unfold RE.back
    rw [h1, e1, List.getLast?_concat, List.dropLast_concat, h2, e2]
    refine ⟨rfl, by simp, ?_⟩
    unfold RE.vals
    rw [List.getElem?_append_left (by simpa using hj)]
    simp [hj]
theorem fwN_is (E : RE) (hr : E.redo = []) (hc : ∀ j (hj : j < E.undo.length), E.vals[j + 1]? = some (E.undo[j].2.val)) : ∀ j, j ≤ E.undo.length →
    ((E.bkN E.undo.length).fwN j).undo = E.undo.take j ∧ ((E.bkN E.undo.length).fwN j).redo = (E.undo.drop j).reverse ∧ E.vals[j]? = some ((E.bkN E.undo.length).fwN j).now.val
  | 0, _ => by
    obtain ⟨h1, h2, h3⟩ := bkN_is E hr E.undo.length (Nat.le_refl _)
    rw [Nat.sub_self] at h1 h2 h3
    exact ⟨h1, h2, h3⟩
  | j + 1, h => by
    obtain ⟨h1, h2, h3⟩ := fwN_is E hr hc j (by omega)
    have hj : j < E.undo.length := by omega
    show (((E.bkN E.undo.length).fwN j).forth).undo = _ ∧ (((E.bkN E.undo.length).fwN j).forth).redo = _ ∧ _ = some (((E.bkN E.undo.length).fwN j).forth).now.val
    unfold RE.forth
    rw [h2, List.drop_eq_getElem_cons hj, List.reverse_cons, List.getLast?_concat, List.dropLast_concat, h1]
    refine ⟨?_, rfl, hc j hj⟩
    rw [List.take_succ_eq_append_getElem hj]
theorem und_chain {N us cs v} (h : Und N us cs v) : ∀ j (hj : j < cs.length), (cs.map (·.1.val) ++ [v])[j + 1]? = some (cs[j].2.val) := by
  induction h with
  | nil v => intro j hj; simp at hj
  | snoc us cs e c h k ih =>
    intro j hj
    have hj' : j ≤ cs.length := by simp at hj; omega
    rcases Nat.lt_or_eq_of_le hj' with q | rfl
    · have := ih j q
      rw [List.map_append, List.map_singleton, List.getElem?_append_left (by simpa using q), this, List.getElem_append_left q]
    · rw [List.getElem?_append_right (by simp)]
      simp
theorem Ag.chain {N F E} (h : Ag N F E) : ∀ j (hj : j < E.undo.length), E.vals[j + 1]? = some (E.undo[j].2.val) := by
  unfold RE.vals
  rw [h.val]
  exact und_chain h.und
theorem Ag.ok {N : Nat} {F : FT} {E : RE} (h : Ag N F E) : FOk N F := ⟨h.vd, h.le, h.in_, h.n, h.few⟩
theorem Ag.undo_ok {N : Nat} {F : FT} {E : RE} (h : Ag N F E) (hu : F.undo ≠ []) : ∃ us x, F.undo = us ++ [x] ∧ x.at_ + nL x.new ≤ nL F.val ∧ x.new.length ≤ N ∧ x.old.length ≤ N := by
  rcases h.und.last with ⟨e, _⟩ | ⟨us, cs, x, c, e1, e2, _, k, ev⟩
  · exact absurd e hu
  · obtain ⟨a, z, ha, hz, ho, hn, v1, v2, hat⟩ := k.ex
    refine ⟨us, x, e1, ?_, ?_, ?_⟩
    · rw [ev, v2, nL_app _ ha, nL_app _ hn, hat]; omega
    · have := k.n2; rw [v2] at this; simp at this; omega
    · have := k.n1; rw [v1] at this; simp at this; omega
theorem Ag.redo_ok {N : Nat} {F : FT} {E : RE} (h : Ag N F E) (hu : F.redo ≠ []) : ∃ us x, F.redo = us ++ [x] ∧ x.at_ + nL x.old ≤ nL F.val ∧ x.new.length ≤ N ∧ x.old.length ≤ N := by
  rcases h.red.last with ⟨e, _⟩ | ⟨us, cs, x, c, e1, e2, _, k, ev⟩
  · exact absurd e hu
  · obtain ⟨a, z, ha, hz, ho, hn, v1, v2, hat⟩ := k.ex
    refine ⟨us, x, e1, ?_, ?_, ?_⟩
    · rw [ev, v1, nL_app _ ha, nL_app _ ho, hat]; omega
    · have := k.n2; rw [v2] at this; simp at this; omega
    · have := k.n1; rw [v1] at this; simp at this; omega
theorem rep_case (E : RE) (a b : Nat) (v : List UInt8) : (a = b ∧ v = [] ∧ E.rep a b v = E) ∨ (¬ (a = b ∧ v = []) ∧ ∃ c : Mo, c.val = cutL E.now.val 0 a ++ (v ++ cutL E.now.val b (nL E.now.val)) ∧ E.rep a b v = ⟨c, keepE (E.undo ++ [(E.now, c)]), []⟩) := by
  unfold RE.rep
  by_cases h : a = b ∧ v = []
  · exact .inl ⟨h.1, h.2, if_pos h⟩
  · exact .inr ⟨h, _, rfl, if_neg h⟩
theorem del_case {N : Nat} {F : FT} {E : RE} (h : Ag N F E) (fw : Bool) : (F.st = F.en ∧ E.del fw = E) ∨ (∃ c : Mo, E.del fw = ⟨c, keepE (E.undo ++ [(E.now, c)]), []⟩ ∧ ¬ (F.st = F.en ∧ c.val = F.val)) := by
  have hin := h.in_
  have hle := h.le
  have key : ∀ (a b : Nat) (c : Mo), a < b → b ≤ nL F.val → c.val = cutL F.val 0 a ++ ([] ++ cutL F.val b (nL F.val)) → c.val ≠ F.val := fun a b c hab hb hc e => by
    have h1 := congrArg nL (hc.symm.trans e)
    rw [List.nil_append, nL_app _ (cut_vd h.vd 0 a), cut_n h.vd (by omega), cut_n h.vd (Nat.le_refl _)] at h1
    omega
  unfold RE.del
  rw [h.st, h.en, h.val]
  by_cases e : F.st = F.en
  · cases fw with
    | true =>
      rw [if_pos ⟨e, rfl⟩]
      rcases rep_case E F.st (min (F.en + 1) (nL F.val)) [] with ⟨_, _, h3⟩ | ⟨h1, c, h2, h3⟩
      · exact .inl ⟨e, h3⟩
      · refine .inr ⟨c, h3, fun q => key _ _ c ?_ ?_ (h.val ▸ h2) q.2⟩
        · have : ¬ F.st = min (F.en + 1) (nL F.val) := fun q => h1 ⟨q, rfl⟩
          omega
        · omega
    | false =>
      rw [if_neg (by simp), if_pos e]
      rcases rep_case E (F.st - 1) F.en [] with ⟨_, _, h3⟩ | ⟨h1, c, h2, h3⟩
      · exact .inl ⟨e, h3⟩
      · refine .inr ⟨c, h3, fun q => key _ _ c ?_ hin (h.val ▸ h2) q.2⟩
        have : ¬ F.st - 1 = F.en := fun q => h1 ⟨q, rfl⟩
        omega
  · rw [if_neg (fun q => e q.1), if_neg e]
    rcases rep_case E F.st F.en [] with ⟨h1, _, h3⟩ | ⟨h1, c, h2, h3⟩
    · exact absurd h1 e
    · exact .inr ⟨c, h3, fun q => e q.1⟩
theorem ins_case {N : Nat} {F : FT} {E : RE} (h : Ag N F E) (y : List UInt8) : (F.st = F.en ∧ y = [] ∧ E.ins y = E) ∨ (¬ (F.st = F.en ∧ y = []) ∧ ∃ c : Mo, E.ins y = ⟨c, keepE (E.undo ++ [(E.now, c)]), []⟩) := by
  unfold RE.ins
  rw [h.st, h.en]
  rcases rep_case E F.st F.en y with ⟨h1, h2, h3⟩ | ⟨h1, c, _, h3⟩
  · exact .inl ⟨h1, h2, h3⟩
  · exact .inr ⟨h1, c, h3⟩
structure Us (N : Nat) (vs : List (List UInt8)) (F : FT) (E : RE) : Prop where
  ag : Ag N F E
  vs : Vs vs E
  red : E.redo = []
theorem Us.of {v : List UInt8} (h : Vd v) {N : Nat} (hN : v.length ≤ N) : Us N [v] (FT.of v) ⟨⟨v, nL v, nL v⟩, [], []⟩ := ⟨Ag.of h hN, Vs.of ⟨⟨v, nL v, nL v⟩, [], []⟩ rfl, rfl⟩
theorem Us.mono {N N' : Nat} {vs F E} (h : Us N vs F E) (hN : N ≤ N') : Us N' vs F E := ⟨h.ag.mono hN, h.vs, h.red⟩
theorem Us.push {N N' : Nat} {vs F E F' E'} (h : Us N vs F E) (h' : Ag N' F' E') {c : Mo} (he : E' = ⟨c, keepE (E.undo ++ [(E.now, c)]), []⟩) : Us N' (vs ++ [F'.val]) F' E' := by
  refine ⟨h', ?_, by rw [he]⟩
  have := h.vs.push c
  rw [← he] at this
  have hv := h'.val
  rw [he] at hv
  rw [← hv]
  exact this
theorem Us.keep {N N' : Nat} {vs F E F' E'} (h : Us N vs F E) (h' : Ag N' F' E') (he : E' = E) : Us N' vs F' E' := ⟨h', he ▸ h.vs, he ▸ h.red⟩
theorem Us.sel {N : Nat} {vs F E} (h : Us N vs F E) (a b : Int) : Us N vs (F.sel a b) (E.sel a b) := ⟨h.ag.sel a b, h.vs.keep rfl rfl, h.red⟩
end Go.Proofs.YtacdbnhnhdlmpaaGreatDoor.W
end
section
namespace Go.Proofs.YtacdbnhnhdlmpaaGreatDoor.W
open Go.ChangeShapes Go.WideShapes Go.ChangeAt Go.RowKit Go.Joins
theorem own : ownKnob Tryz.prog.godebug = none := by kernel_rfl
theorem laidOut : laidOutB Tryz.prog = true := by kernel_rfl
theorem trodAll_stays {H : Type} {enc : TypeId × Value → H} {P : Program} (hl : laidOutB P = true) {W W' : World} (hb : Below W.heap.size W W') {sp : Nat → Bool} :
    ∀ {ts : List TypeId} {vs : List Value} {ds : List (DataW H)} {ps : List MemPlace}, (∀ t ∈ ts, P.readableRec t = true ∧ t < P.types.size) →
      DataW.TrodAll enc P W 0 (fun _ => true) true ts vs ds ps → (∀ p ∈ ps, p.block < W.heap.size) → (∀ p ∈ ps, sp p.block = true) → DataW.TrodAll enc P W' 0 sp true ts vs ds ps
  | [], [], [], _, _, h, _, _ => h
  | [], _ :: _, _, _, _, h, _, _ => h.elim
  | [], [], _ :: _, _, _, h, _, _ => h.elim
  | _ :: _, [], _, _, _, h, _, _ => h.elim
  | _ :: _, _ :: _, [], _, _, h, _, _ => h.elim
  | t :: ts, v :: vs, d :: ds, ps, hT, ⟨p, q, h1, h2, e⟩, hlt, hs => by
    subst e
    obtain ⟨hr, hrow⟩ := hT t (by simp)
    exact ⟨p, q, WideElems.Trod_stays hl hr hrow h1 (fun x hx => hb.same (hlt x (by simp [hx]))) (fun x hx => hs x (by simp [hx])),
      trodAll_stays hl hb (fun t ht => hT t (by simp [ht])) h2 (fun x hx => hlt x (by simp [hx])) (fun x hx => hs x (by simp [hx])), rfl⟩
section
variable {H : Type} {enc : TypeId × Value → H} {P : Program}
theorem post_of_below {f : Func} {s : ChangeSpec} {apart fresh handsOn again : Bool} {W W' : World} {args : Array Value} {v : Value} {ds gs : List (DataW H)} {before pa pv : List MemPlace}
    (hW : DataW.Whole enc P f.params.toList s.vars apart W args.toList ds gs before)
    (hres : ∀ (b : Nat) (sp : Nat → Bool) (hd : Bool), DataW.TrodAll enc P W' b sp hd f.resultTypes.toList (v.resultList f.resultTypes.size) (s.fn H (ds ++ gs)).results [])
    (hargs : ∀ sp : Nat → Bool, (∀ p ∈ before, sp p.block = true) → DataW.TrodAll enc P W' 0 sp true f.params.toList args.toList (s.fn H (ds ++ gs)).args pa)
    (hvars : ∀ sp : Nat → Bool, (∀ p ∈ before, sp p.block = true) → DataW.TrodVars enc P W' sp s.vars (s.fn H (ds ++ gs)).vars pv)
    (hps : before = pa ++ pv) (hb : Below W.heap.size W W')
    (hok : ∀ (j : Nat) (t : TypeId) (r : Value), f.resultTypes[j]? = some t → (v.resultList f.resultTypes.size)[j]? = some r → Value.okWide P W' .any 0 t r) :
    s.post enc P f apart fresh handsOn again W args v W' := by
  have hlt : ∀ p ∈ before, p.block < W.heap.size := fun p hp => hW.lt p hp
  have hold : ∀ p ∈ before, (fun b => decide (b < W.heap.size)) p.block = true := fun p hp => by simpa using hlt p hp
  refine ⟨ds, gs, before, [], pa, pv, hW, hres _ _ _, hargs _ hold, hvars _ hold, World.keptBut_mono (fun p hp => ⟨hp, ?_⟩) (hb.frame (· ∈ before)), fun _ => ?_⟩
  · rw [hps, List.mem_append] at hp
    exact Or.inr hp
  · obtain ⟨_, _, _, _, _, hz, hn⟩ := hW
    refine ⟨hok, _, _, ([] ++ pa) ++ pv, ⟨[] ++ pa, pv, trodAll_append (hargs _ (fun _ _ => rfl)) (hres _ _ _), hvars _ (fun _ _ => rfl), rfl, ?_, ?_⟩, ?_⟩
    · intro b off hp
      have hin : MemPlace.cell b off ∈ before := by rw [hps]; simpa using hp
      rw [hb.frozen (hlt _ hin)]
      exact hz b off hin
    · intro ha
      have := hn ha
      rw [hps] at this
      simpa using this
    · intro p hp _
      rw [hps]
      simpa using hp
theorem law_post {f : Func} {s : ChangeSpec} {fresh handsOn again : Bool} {W W' : World} {args : Array Value} {ds gs : List (DataW H)} {before : List MemPlace} {tb : TypeId}
    (hl : laidOutB P = true) (hT : ∀ t ∈ f.params.toList, P.readableRec t = true ∧ t < P.types.size)
    (hr : f.resultTypes = #[tb]) (htb : P.underlying tb = some .bool) (hv : s.vars = [])
    (hfn : (s.fn H (ds ++ gs)).results = [.lit (.bool true)]) (hfa : (s.fn H (ds ++ gs)).args = ds) (hfv : (s.fn H (ds ++ gs)).vars = [])
    (hW : DataW.Whole enc P f.params.toList s.vars false W args.toList ds gs before) (hb : Below W.heap.size W W') :
    s.post enc P f false fresh handsOn again W args (.bool true) W' := by
  have hlt : ∀ p ∈ before, p.block < W.heap.size := fun p hp => hW.lt p hp
  have hW' := hW
  obtain ⟨p, q, hA, hV, rfl, _, _⟩ := hW
  rw [hv] at hV
  obtain ⟨rfl, rfl⟩ := trodVars_none hV
  simp only [List.append_nil] at *
  refine post_of_below (pa := p) (pv := []) hW' (fun _ _ _ => ?_) (fun sp hs => ?_) (fun sp _ => ?_) (by simp) hb (ok_one hr rfl (okWide_bool_mk htb _))
  · rw [hr]
    simp only [List.append_nil]
    rw [hfn]
    exact trodAll_cons_mk (shut_bool htb _) trodAll_mk0
  · simp only [List.append_nil]
    rw [hfa]
    exact trodAll_stays hl hb hT hA hlt hs
  · simp only [List.append_nil]
    rw [hv, hfv]
    rfl
end
end Go.Proofs.YtacdbnhnhdlmpaaGreatDoor.W
end
