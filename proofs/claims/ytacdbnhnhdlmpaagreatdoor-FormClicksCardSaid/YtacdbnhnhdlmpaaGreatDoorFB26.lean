/- Texts joined: Sgl DcG OpD Spc Sgr SamR. -/
import Derived.Test.YtacdbnhnhdlmpaaGreatDoorFB24
import Derived.Test.YtacdbnhnhdlmpaaGreatDoorFB21
import Derived.Test.YtacdbnhnhdlmpaaGreatDoorFB25
import Derived.Test.YtacdbnhnhdlmpaaGreatDoorFB18
import Derived.LoopTactic
import Derived.RegionTactic
import Derived.Test.YtacdbnhnhdlmpaaGreatDoorFB19
import Derived.Test.YtacdbnhnhdlmpaaGreatDoorFB6
import Derived.Test.YtacdbnhnhdlmpaaGreatDoorFB15
set_option maxRecDepth 100000
set_option maxHeartbeats 40000000
set_option linter.unusedVariables false
set_option linter.unusedSimpArgs false
section
namespace Go.Proofs.YtacdbnhnhdlmpaaGreatDoor.W
open Go.RowKit
def sBody : List UInt8 := [98, 111, 100, 121]
structure SgOk (area : Bool) (x : List UInt8) (S : Tr) (K : Nat → List Nat) (d : Nat → Nat) : Prop where
  ok : TrOk 1 S K d
  fr : S.free = []
  len : S.slots.length = if area then 4 else 3
  n0 : nI S 0 = some (1, [], [], [])
  n1 : nI S 1 = some (2, sBody, [], [])
  n2 : nI S 2 = some (2, if area then sArea else sInput, if area then [] else [(sValue, fix x)], [])
  n3 : area = true → nI S 3 = some (3, [], [], fix x)
  k0 : K 0 = [1]
  k1 : K 1 = [2]
  k2 : K 2 = if area then [3] else []
  k3 : K 3 = []
  d0 : d 0 = 1
  d1 : d 1 = 2
  d2 : d 2 = 3
theorem rfix_len3 (n : Nat) : ∀ l : List UInt8, l.length ≤ n → (rfix l).length ≤ 3 * l.length := by
  induction n with
  | zero =>
    intro l h
    have : l = [] := List.eq_nil_of_length_eq_zero (by omega)
    subst this
    rw [rfix_nil]; simp
  | succ n ih =>
    intro l h
    by_cases hne : l = []
    · subst hne; rw [rfix_nil]; simp
    · have hl : 0 < l.length := List.length_pos_iff.2 hne
      rw [rfix_step l hne]
      split
      · have := ih (l.drop 1) (by rw [List.length_drop]; omega)
        rw [List.length_drop] at this
        simp only [List.length_append, List.length_cons, List.length_nil]
        omega
      · rename_i h0
        have := ih (l.drop (szL l)) (by rw [List.length_drop]; omega)
        rw [List.length_drop] at this
        rw [List.length_append, List.length_take]
        omega
theorem fix_len3 (l : List UInt8) : (fix l).length ≤ 3 * l.length := by rw [fix_rfix]; exact rfix_len3 l.length l (Nat.le_refl _)
theorem kin_ne {K : Nat → List Nat} {p i q : Nat} (h : q ≠ p) : KIn K p i q = K q := if_neg h
theorem kin_eq {K : Nat → List Nat} {p i : Nat} : KIn K p i p = K p ++ [i] := if_pos rfl
theorem kin_mem {K : Nat → List Nat} {p i q x : Nat} (h : x ∈ KIn K p i q) : x ∈ K q ∨ x = i := by
  unfold KIn at h
  split at h
  · rename_i e; subst e
    rcases List.mem_append.1 h with h | h
    · exact .inl h
    · exact .inr (by simpa using h)
  · exact .inl h
theorem dadd_ne {d : Nat → Nat} {s x : Nat} (h : x ≠ s) : dAdd d s x = d x := if_neg h
theorem el_body : (elmB sBody && namesB []) = true := by kernel_rfl
theorem el_input (x : List UInt8) : (elmB sInput && namesB [(sValue, x)]) = true := by kernel_rfl
theorem el_area : (elmB sArea && namesB []) = true := by kernel_rfl
set_option maxRecDepth 100000 in
set_option maxHeartbeats 8000000 in
theorem single_any {B : Nat} {w0 w : World} {l : List Ob} (h : All B w0 l w) (hL : ∀ wx, Below B w0 wx → Laid wx) (area : Bool) (x : List UInt8) (hx : x.length ≤ 60) :
    Calls Tryz.prog 14 #[.bool area, .string ⟨x.toArray⟩] w fun e w' => ∃ R S sv fv K d, e = .returned (.tuple #[.pointer (some ⟨R, 0, none⟩), .int .i64 (S.hd 2)]) ∧ All B w0 (trO R S sv fv :: l) w' ∧ SgOk area x S K d := by
  have hfx := fix_len3 x
  have HNew := Lib.hid (tree_newA h 7 2)
  have hnil : ∀ wx, Own wx 85 2 (.slice none 0 0) ([] : List Atr).length (attrC []) := fun wx => World.ownsRow_nil _ _ _ _
  clear h
  have i0 : nI (newT 7 2) 0 = some (1, [], [], []) := rfl
  have l0 : (newT 7 2).slots.length = 1 := rfl
  have T0 := newT_ok 7 2
  have f0 : (newT 7 2).free = [] := rfl
  have r0 : (newT 7 2).root = (newT 7 2).hd 0 := rfl
  have hK0 : ∀ q, (fun _ : Nat => ([] : List Nat)) q = [] := fun _ => rfl
  have hd0 : ∀ q, (fun _ : Nat => (1 : Nat)) q = 1 := fun _ => rfl
  generalize newT 7 2 = S0 at *
  generalize (fun _ : Nat => ([] : List Nat)) = K0 at *
  generalize (fun _ : Nat => (1 : Nat)) = d0 at *
  go_enter Tryz.func14, Tryz.ntmps14
  go_wp2_with fail
  refine HNew.out.mono ?_
  rintro e w1 ⟨R, sv0, rfl, hA1⟩
  have HM1 := Lib.hid (make_el hA1 (hL _ hA1.below) T0 f0 (by omega) 1 l0 sBody (by decide) (.slice none 0 0) [] (hnil w1) (by simp) (fun a ha => by cases ha) el_body)
  clear hA1
  go_wp2_with fail
  refine HM1.out.mono ?_
  rintro e w2 ⟨S1, sv1, fv1, rfl, hA2, g1⟩
  obtain ⟨T1, f1, l1, n1, h1, r1, k1, t1⟩ := g1
  obtain ⟨p0, hp0, hk0, _⟩ := nI_some ((n1 0).trans (by rw [if_neg (by omega)]; exact i0))
  obtain ⟨p1, hp1, hk1, _⟩ := nI_some ((n1 1).trans (if_pos (by omega)))
  have e00 : dAdd d0 1 0 = 1 := by unfold dAdd; rw [if_neg (by omega), hd0]
  have e01 : dAdd d0 1 1 = 1 := by unfold dAdd; rw [if_pos rfl]
  have HI1 := Lib.hid (ins_all hA2 T1 0 1 p0 p1 hp0 hp1 k1 t1 (by omega) (.inr ⟨hk0, hk1, hK0 0⟩) (by rw [e00]; omega))
  have c5 := (show TAt 0 R S1 sv1 fv1 w2 from hA2.head).blk.cell 5
  simp only [List.getElem?_cons_succ, List.getElem?_cons_zero] at c5
  rw [r1, r0] at c5
  rw [h1, h1] at HI1
  clear hA2
  go_wp2_with fail
  refine HI1.out.mono ?_
  rintro e w3 ⟨S2, sv2, fv2, v2, rfl, hA3, g2⟩
  obtain ⟨T2, f2, l2, n2, h2, r2⟩ := g2
  have kk0 : KIn K0 0 1 0 = [1] := by unfold KIn; rw [if_pos rfl, hK0]; rfl
  have kk : ∀ q, q ≠ 0 → KIn K0 0 1 q = [] := fun q hq => by unfold KIn; rw [if_neg hq, hK0]
  have dd0 : (fun x => if x = 1 then dAdd d0 1 0 + 1 else dAdd d0 1 x) 0 = 1 := by simp [e00]
  have dd1 : (fun x => if x = 1 then dAdd d0 1 0 + 1 else dAdd d0 1 x) 1 = 2 := by simp [e00]
  generalize KIn K0 0 1 = K1 at *
  generalize (fun x => if x = 1 then dAdd d0 1 0 + 1 else dAdd d0 1 x) = d1 at *
  rw [l1] at l2
  rw [f1] at f2
  have h2 : ∀ x, S2.hd x = S0.hd x := fun x => (h2 x).trans (h1 x)
  cases area with
  | false =>
    have hA4 := hA3.alloc (.cells #[.string ⟨sValue.toArray⟩, .string ⟨x.toArray⟩] 85)
    have HM2 := Lib.hid (make_el hA4 (hL _ hA4.below) T2 f2 (by omega) 2 l2 sInput (by decide) (.slice (some ⟨w3.heap.size, 0, none⟩) 1 1) [(sValue, x)] (own_at (n := 1) (size := 2) (Blk.new w3 (attrC [(sValue, x)]) 85) rfl (by omega)) (by simp) (fun a ha => by simp only [List.mem_singleton] at ha; subst ha; exact ⟨by show sValue.length ≤ 200; decide, by simp only; omega, by simp only; omega⟩) (el_input x))
    clear hA3 hA4
    go_wp2_with fail
    refine HM2.out.mono ?_
    rintro e w4 ⟨S3, sv3, fv3, rfl, hA5, g3⟩
    obtain ⟨T3, f3, l3, n3, h3, r3, k3, t3⟩ := g3
    obtain ⟨q1, hq1, hqk1, _⟩ := nI_some ((n3 1).trans (by rw [if_neg (by omega), n2]; exact (n1 1).trans (if_pos (by omega))))
    obtain ⟨q2, hq2, hqk2, _⟩ := nI_some ((n3 2).trans (if_pos rfl))
    have e10 : dAdd d1 2 0 = 1 := by unfold dAdd; rw [if_neg (by omega), dd0]
    have e11 : dAdd d1 2 1 = 2 := by unfold dAdd; rw [if_neg (by omega), dd1]
    have e12 : dAdd d1 2 2 = 1 := by unfold dAdd; rw [if_pos rfl]
    have HI2 := Lib.hid (ins_all hA5 T3 1 2 q1 q2 hq1 hq2 k3 t3 (by omega) (.inl ⟨hqk1, by omega⟩) (by rw [e11]; omega))
    have h3 : ∀ x, S3.hd x = S0.hd x := fun x => (h3 x).trans (h2 x)
    rw [h3, h3] at HI2
    rw [h2]
    clear hA5
    go_wp2_with fail
    refine HI2.out.mono ?_
    rintro e w5 ⟨S4, sv4, fv4, v4, rfl, hA6, g4⟩
    obtain ⟨T4, f4, l4, n4, h4, r4⟩ := g4
    have h4 : ∀ x, S4.hd x = S0.hd x := fun x => (h4 x).trans (h3 x)
    have HA6 := Lib.hid hA6
    clear hA6
    go_wp2_with fail
    go_ret2
    rw [← h4]
    have hn : ∀ y, nI S4 y = if y = 2 then some (2, sInput, [(sValue, x)].map (fun a => (a.1, fix a.2)), []) else if y = 1 then some (2, sBody, ([] : List Atr).map (fun a => (a.1, fix a.2)), []) else nI S0 y := fun y => by
      rw [n4, n3]
      split
      · rfl
      · rw [n2, n1]
    refine ⟨R, S4, sv4, fv4, _, _, rfl, HA6.out, T4, f4.trans f3, (l4.trans l3), ?_, ?_, ?_, fun e => (by cases e), ?_, ?_, ?_, ?_, ?_, ?_, ?_⟩
    · rw [hn, if_neg (by omega), if_neg (by omega)]; exact i0
    · rw [hn, if_neg (by omega), if_pos rfl]; rfl
    · rw [hn, if_pos rfl]; rfl
    · rw [kin_ne (by omega)]; exact kk0
    · rw [kin_eq, kk 1 (by omega)]; rfl
    · rw [kin_ne (by omega)]; exact k3
    · rw [kin_ne (by omega)]; exact kk 3 (by omega)
    · simp only [show (0 : Nat) ≠ 2 by omega, if_false, e10]
    · simp only [show (1 : Nat) ≠ 2 by omega, if_false, e11]
    · simp only [if_true, e11]
  | true =>
    have HM2 := Lib.hid (make_el hA3 (hL _ hA3.below) T2 f2 (by omega) 2 l2 sArea (by decide) (.slice none 0 0) [] (hnil w3) (by simp) (fun a ha => by cases ha) el_area)
    rw [h2] at HM2
    clear hA3
    go_wp2_with fail
    refine HM2.out.mono ?_
    rintro e w4 ⟨S3, sv3, fv3, rfl, hA5, g3⟩
    obtain ⟨T3, f3, l3, n3, h3, r3, k3, t3⟩ := g3
    have h3 : ∀ x, S3.hd x = S0.hd x := fun x => (h3 x).trans (h2 x)
    have HM3 := Lib.hid (make_tx hA5 (hL _ hA5.below) T3 f3 (by omega) 3 l3 x (by omega) (by omega))
    rw [h3] at HM3
    clear hA5
    go_wp2_with fail
    refine HM3.out.mono ?_
    rintro e w5 ⟨S4, sv4, fv4, rfl, hA6, g4⟩
    obtain ⟨T4, f4, l4, n4, h4, r4, k4, t4⟩ := g4
    have h4 : ∀ x, S4.hd x = S0.hd x := fun x => (h4 x).trans (h3 x)
    have hn4 : ∀ y, nI S4 y = if y = 3 then some (3, [], [], fix x) else if y = 2 then some (2, sArea, ([] : List Atr).map (fun a => (a.1, fix a.2)), []) else if y = 1 then some (2, sBody, ([] : List Atr).map (fun a => (a.1, fix a.2)), []) else nI S0 y := fun y => by
      rw [n4, n3]
      split
      · rfl
      · split
        · rfl
        · rw [n2, n1]
    obtain ⟨q1, hq1, hqk1, _⟩ := nI_some ((hn4 1).trans (by rw [if_neg (by omega), if_neg (by omega), if_pos rfl]))
    obtain ⟨q2, hq2, hqk2, _⟩ := nI_some ((hn4 2).trans (by rw [if_neg (by omega), if_pos rfl]))
    have e10 : dAdd (dAdd d1 2) 3 0 = 1 := by rw [dadd_ne (by omega), dadd_ne (by omega), dd0]
    have e11 : dAdd (dAdd d1 2) 3 1 = 2 := by rw [dadd_ne (by omega), dadd_ne (by omega), dd1]
    generalize dAdd (dAdd d1 2) 3 = d2 at *
    have HI2 := Lib.hid (ins_all hA6 T4 1 2 q1 q2 hq1 hq2 k3 t3 (by omega) (.inl ⟨hqk1, by omega⟩) (by rw [e11]; omega))
    rw [h4, h4] at HI2
    clear hA6
    go_wp2_with fail
    refine HI2.out.mono ?_
    rintro e w6 ⟨S5, sv5, fv5, v5, rfl, hA7, g5⟩
    obtain ⟨T5, f5, l5, n5, h5, r5⟩ := g5
    have h5 : ∀ x, S5.hd x = S0.hd x := fun x => (h5 x).trans (h4 x)
    obtain ⟨q2, hq2, hqk2, _⟩ := nI_some ((n5 2).trans ((hn4 2).trans (by rw [if_neg (by omega), if_pos rfl])))
    obtain ⟨q3, hq3, hqk3, _⟩ := nI_some ((n5 3).trans ((hn4 3).trans (by rw [if_pos rfl])))
    have kb0 : KIn K1 1 2 0 = [1] := by rw [kin_ne (by omega)]; exact kk0
    have kb1 : KIn K1 1 2 1 = [2] := by rw [kin_eq, kk 1 (by omega)]; rfl
    have kb2 : KIn K1 1 2 2 = [] := by rw [kin_ne (by omega)]; exact k3
    have kb3 : KIn K1 1 2 3 = [] := by rw [kin_ne (by omega)]; exact k4
    have kbt : ∀ q, 3 ∉ KIn K1 1 2 q := fun q hq => by
      rcases kin_mem hq with h | h
      · exact t4 q h
      · omega
    have db0 : (fun y => if y = 2 then d2 1 + 1 else d2 y) 0 = 1 := by simp [e10]
    have db1 : (fun y => if y = 2 then d2 1 + 1 else d2 y) 1 = 2 := by simp [e11]
    have db2 : (fun y => if y = 2 then d2 1 + 1 else d2 y) 2 = 3 := by simp [e11]
    generalize KIn K1 1 2 = K2 at *
    generalize (fun y => if y = 2 then d2 1 + 1 else d2 y) = d3 at *
    have HI3 := Lib.hid (ins_all hA7 T5 2 3 q2 q3 hq2 hq3 kb3 kbt (by omega) (.inl ⟨hqk2, by omega⟩) (by rw [db2]; omega))
    rw [h5, h5] at HI3
    clear hA7
    go_wp2_with fail
    refine HI3.out.mono ?_
    rintro e w7 ⟨S6, sv6, fv6, v6, rfl, hA8, g6⟩
    obtain ⟨T6, f6, l6, n6, h6, r6⟩ := g6
    have h6 : ∀ x, S6.hd x = S0.hd x := fun x => (h6 x).trans (h5 x)
    have HA8 := Lib.hid hA8
    clear hA8
    go_wp2_with fail
    go_ret2
    rw [← h6]
    have hn : ∀ y, nI S6 y = nI S4 y := fun y => (n6 y).trans (n5 y)
    refine ⟨R, S6, sv6, fv6, _, _, rfl, HA8.out, T6, f6.trans (f5.trans f4), (l6.trans (l5.trans l4)), ?_, ?_, ?_, fun _ => ?_, ?_, ?_, ?_, ?_, ?_, ?_, ?_⟩
    · rw [hn, hn4, if_neg (by omega), if_neg (by omega), if_neg (by omega)]; exact i0
    · rw [hn, hn4, if_neg (by omega), if_neg (by omega), if_pos rfl]; rfl
    · rw [hn, hn4, if_neg (by omega), if_pos rfl]; rfl
    · rw [hn, hn4, if_pos rfl]
    · rw [kin_ne (by omega)]; exact kb0
    · rw [kin_ne (by omega)]; exact kb1
    · rw [kin_eq, kb2]; rfl
    · rw [kin_ne (by omega)]; exact kb3
    · simp only [show (0 : Nat) ≠ 3 by omega, if_false, db0]
    · simp only [show (1 : Nat) ≠ 3 by omega, if_false, db1]
    · simp only [show (2 : Nat) ≠ 3 by omega, if_false, db2]
theorem nI_live {S : Tr} {x : Nat} : (nI S x).isSome = (S.at x).isSome := by unfold nI; rw [Option.isSome_map]
def KD (d : Nat → Nat) (p s : Nat) : Nat → Nat := fun x => if x = s then dAdd d s p + 1 else dAdd d s x
section
variable {S S1 S2 : Tr} {K : Nat → List Nat} {d : Nat → Nat} {s p : Nat} {q : Int × List UInt8 × List Atr × List UInt8}
theorem dc_grow (D : DcOk S K d) (hs : S.slots.length = s) (hl : s + 1 ≤ 100) (g : GMk 1 S K d s S1 q) (i : GIn 1 S1 K (dAdd d s) p s S2) : DcOk S2 (KIn K p s) (KD d p s) := by
  refine ⟨i.ok, i.fr.trans g.fr, by rw [i.len, g.len]; exact hl, fun x hx h0 => ?_⟩
  by_cases e : x = s
  · subst e
    exact ⟨p, by rw [kin_eq]; simp⟩
  · rw [← nI_live, i.nI, g.nI, if_neg e, nI_live] at hx
    obtain ⟨r, hr⟩ := D.att x hx h0
    refine ⟨r, ?_⟩
    unfold KIn
    split
    · rename_i e2; subst e2; exact List.mem_append_left _ hr
    · exact hr
theorem kd_le (hd : ∀ x, d x ≤ s + 1) (hp : p ≠ s) : ∀ x, KD d p s x ≤ s + 2 := fun x => by
  unfold KD
  rw [dadd_ne hp]
  by_cases e : x = s
  · rw [if_pos e]; have := hd p; omega
  · rw [if_neg e, dadd_ne e]; have := hd x; omega
end
structure PtF where
  k : Nat
  into : Nat
  nm : Nat
  fl : Nat
structure PtF.In (p : PtF) : Prop where
  k : p.k ≤ 255
  into : p.into ≤ 255
  nm : p.nm ≤ 255
  fl : p.fl ≤ 255
def sHref : List UInt8 := [104, 114, 101, 102]
def sTabi : List UInt8 := [116, 97, 98, 105, 110, 100, 101, 120]
def sDisab : List UInt8 := [100, 105, 115, 97, 98, 108, 101, 100]
def sText : List UInt8 := [116, 101, 120, 116]
def sDiv : List UInt8 := [100, 105, 118]
def sA : List UInt8 := [97]
def sSpan : List UInt8 := [115, 112, 97, 110]
def tnL : List (List UInt8) := [[], [], sText, [], sCheck, sRadio, sHidden, sSubmit, [], []]
def tnS (k : Nat) : List UInt8 := tnL.getD k []
def nmL : List (List UInt8) := [[], [], [114], [115]]
def hrL : List Atr := [(sHref, [120]), (sTabi, [48]), (sTabi, [45, 49])]
def atL (p : PtF) (i : Nat) : List Atr :=
  (if tnS (p.k % 10) ≠ [] then [(sType, tnS (p.k % 10))] else []) ++
  ((if p.k % 10 = 8 ∧ p.fl % 2 = 1 then [(sType, sButton)] else []) ++
  ((if p.k % 10 = 9 then [hrL.getD (p.fl % 3) ([], [])] else []) ++
  ((if p.nm % 4 > 0 then [(sName, nmL.getD (p.nm % 4) [])] else []) ++
  ((if p.fl % 2 = 1 ∧ p.k % 10 ≠ 9 then [(sChecked, [])] else []) ++
  ((if p.fl / 2 % 2 = 1 ∧ p.k % 10 ≠ 9 then [(sDisab, [])] else []) ++
  (if p.fl / 4 % 2 = 1 ∧ p.k % 10 ≠ 9 then [(sValue, [(97 + i % 26).toUInt8])] else []))))))
def elL : List (List UInt8) := [sForm, sDiv, sInput, sArea, sInput, sInput, sInput, sInput, sButton, sA]
def elP (p : PtF) : List UInt8 := if p.k % 10 = 9 ∧ p.fl % 3 > 0 then sSpan else elL.getD (p.k % 10) []
def nsL (k f3 : Nat) (b1 b2 b4 bn : Bool) : List (List UInt8) := (if tnS k ≠ [] then [sType] else []) ++ ((if k = 8 ∧ b1 = true then [sType] else []) ++ ((if k = 9 then [(hrL.getD f3 ([], [])).1] else []) ++ ((if bn = true then [sName] else []) ++ ((if b1 = true ∧ k ≠ 9 then [sChecked] else []) ++ ((if b2 = true ∧ k ≠ 9 then [sDisab] else []) ++ (if b4 = true ∧ k ≠ 9 then [sValue] else []))))))
def bL : List Bool := [false, true]
theorem ns_ok0 : ((List.range 10).all fun k => (List.range 3).all fun f3 => bL.all fun b1 => bL.all fun b2 => bL.all fun b4 => bL.all fun bn => ((nsL k f3 b1 b2 b4 bn).all headB && decide (nsL k f3 b1 b2 b4 bn).Nodup)) = true := by kernel_rfl
theorem ns_ok {k f3 : Nat} {b1 b2 b4 bn : Bool} (hk : k < 10) (hf : f3 < 3) : ((nsL k f3 b1 b2 b4 bn).all headB && decide (nsL k f3 b1 b2 b4 bn).Nodup) = true := by
  have hb : ∀ b : Bool, b ∈ bL := fun b => by cases b <;> simp [bL]
  have h1 := List.all_eq_true.1 ns_ok0 k (List.mem_range.2 hk)
  have h2 := List.all_eq_true.1 h1 f3 (List.mem_range.2 hf)
  have h3 := List.all_eq_true.1 h2 b1 (hb b1)
  have h4 := List.all_eq_true.1 h3 b2 (hb b2)
  have h5 := List.all_eq_true.1 h4 b4 (hb b4)
  exact List.all_eq_true.1 h5 bn (hb bn)
theorem nm_names {k f3 : Nat} {b1 b2 b4 bn : Bool} (hk : k < 10) (hf : f3 < 3) (al : List Atr) (h : al.map (·.1) = nsL k f3 b1 b2 b4 bn) : namesB al = true := by
  have := ns_ok (b1 := b1) (b2 := b2) (b4 := b4) (bn := bn) hk hf
  rw [← h, List.all_map] at this
  exact this
theorem if_map {α β : Type} (c : Prop) [Decidable c] (a : List α) (f : α → β) : (if c then a else []).map f = if c then a.map f else [] := by split <;> rfl
theorem atL_names (p : PtF) (i : Nat) : namesB (atL p i) = true := by
  refine nm_names (k := p.k % 10) (f3 := p.fl % 3) (b1 := decide (p.fl % 2 = 1)) (b2 := decide (p.fl / 2 % 2 = 1)) (b4 := decide (p.fl / 4 % 2 = 1)) (bn := decide (p.nm % 4 > 0)) (Nat.mod_lt _ (by omega)) (Nat.mod_lt _ (by omega)) _ ?_
  unfold atL nsL
  simp only [List.map_append, if_map, List.map_cons, List.map_nil, decide_eq_true_eq]
theorem elP_mem (p : PtF) : elP p ∈ sSpan :: elL := by
  unfold elP
  split
  · simp
  · refine List.mem_cons_of_mem _ ?_
    have hk : p.k % 10 < elL.length := Nat.mod_lt _ (by decide)
    rw [List.getD_eq_getElem?_getD, List.getElem?_eq_getElem hk]
    exact List.getElem_mem hk
theorem elm_all : (sSpan :: elL).all (fun x => elmB x && decide (x.length ≤ 20)) = true := by kernel_rfl
theorem elP_ok (p : PtF) : elmB (elP p) = true ∧ (elP p).length ≤ 20 := by
  have := List.all_eq_true.1 elm_all _ (elP_mem p)
  simpa using this
theorem atL_len (p : PtF) (i : Nat) : (atL p i).length ≤ 7 := by
  unfold atL
  simp only [List.length_append]
  have : ∀ (c : Prop) [Decidable c] (a : Atr), (if c then [a] else []).length ≤ 1 := fun c _ a => by split <;> simp
  have h1 := this (tnS (p.k % 10) ≠ []) (sType, tnS (p.k % 10))
  have h2 := this (p.k % 10 = 8 ∧ p.fl % 2 = 1) (sType, sButton)
  have h3 := this (p.k % 10 = 9) (hrL.getD (p.fl % 3) ([], []))
  have h4 := this (p.nm % 4 > 0) (sName, nmL.getD (p.nm % 4) [])
  have h5 := this (p.fl % 2 = 1 ∧ p.k % 10 ≠ 9) (sChecked, [])
  have h6 := this (p.fl / 2 % 2 = 1 ∧ p.k % 10 ≠ 9) (sDisab, [])
  have h7 := this (p.fl / 4 % 2 = 1 ∧ p.k % 10 ≠ 9) (sValue, [(97 + i % 26).toUInt8])
  omega
theorem getD_len {l : List (List UInt8)} {m : Nat} (h : ∀ x ∈ l, x.length ≤ m) (k : Nat) : (l.getD k []).length ≤ m := by
  rw [List.getD_eq_getElem?_getD]
  cases e : l[k]? with
  | none => simp
  | some x => exact h x (List.mem_of_getElem? e)
theorem atL_ok (p : PtF) (i : Nat) : ∀ a ∈ atL p i, a.1.length ≤ 20 ∧ a.2.length ≤ 20 := by
  intro a ha
  have hm : ∀ (c : Prop) [Decidable c] (b : Atr), a ∈ (if c then [b] else []) → a = b := fun c _ b h => by
    split at h
    · simpa using h
    · cases h
  unfold atL at ha
  simp only [List.mem_append] at ha
  rcases ha with h | h | h | h | h | h | h
  · have := hm _ _ h; subst this; exact ⟨by show sType.length ≤ 20; decide, getD_len (by decide) _⟩
  · have := hm _ _ h; subst this; exact ⟨by show sType.length ≤ 20; decide, by show sButton.length ≤ 20; decide⟩
  · have := hm _ _ h; subst this
    have h3 : p.fl % 3 = 0 ∨ p.fl % 3 = 1 ∨ p.fl % 3 = 2 := by omega
    rcases h3 with e | e | e <;> rw [e] <;> exact ⟨by decide, by decide⟩
  · have := hm _ _ h; subst this; exact ⟨by show sName.length ≤ 20; decide, getD_len (by decide) _⟩
  · have := hm _ _ h; subst this; exact ⟨by show sChecked.length ≤ 20; decide, by simp⟩
  · have := hm _ _ h; subst this; exact ⟨by show sDisab.length ≤ 20; decide, by simp⟩
  · have := hm _ _ h; subst this; exact ⟨by show sValue.length ≤ 20; decide, by simp⟩
end Go.Proofs.YtacdbnhnhdlmpaaGreatDoor.W
end
section
namespace Go.Proofs.YtacdbnhnhdlmpaaGreatDoor.W
open Go.ChangeShapes Go.WideShapes Go.ChangeAt Go.RowKit Go.Joins Go.Deep
def InPt (w : World) (A : Option Addr) (n : Nat) (f : Nat → PtF) : Prop := 0 < n → ∃ b off, A = some ⟨b, off, none⟩ ∧ b < w.heap.size ∧ ∀ j, j < n →
  w.cell? ⟨b, off + j * 4, none⟩ = some (.int .u8 ((f j).k : Int)) ∧ w.cell? ⟨b, off + j * 4 + 1, none⟩ = some (.int .u8 ((f j).into : Int)) ∧ w.cell? ⟨b, off + j * 4 + 2, none⟩ = some (.int .u8 ((f j).nm : Int)) ∧ w.cell? ⟨b, off + j * 4 + 3, none⟩ = some (.int .u8 ((f j).fl : Int))
theorem InPt.below {w w' : World} {A : Option Addr} {n : Nat} {f : Nat → PtF} (h : InPt w A n f) (hb : Below w.heap.size w w') : InPt w' A n f := fun hn => by
  obtain ⟨b, off, e, hl, hc⟩ := h hn
  exact ⟨b, off, e, Nat.lt_of_lt_of_le hl hb.size, fun j hj => let ⟨q0, q1, q2, q3⟩ := hc j hj; ⟨cell_keep hb q0, cell_keep hb q1, cell_keep hb q2, cell_keep hb q3⟩⟩
section
variable {H : Type} {enc : TypeId × Value → H} {P : Program} {w : World}
theorem open_parts {r : Reach} {b0 : Nat} {t e : TypeId} {f0 f1 f2 f3 : Field} {v : Value} {d : DataW H} {ps : List MemPlace} (ht : P.underlying t = some (.slice e)) (he : P.underlying e = some (.struct #[f0, f1, f2, f3]))
    (hone : oneCellFields P #[f0, f1, f2, f3] = true) (hC : P.cellsOf e = 4) (e0 : P.underlying f0.type = some (.int .u8)) (e1 : P.underlying f1.type = some (.int .u8)) (e2 : P.underlying f2.type = some (.int .u8)) (e3 : P.underlying f3.type = some (.int .u8))
    (hval : Value.okWide P w r b0 t v) (h : DataW.Trod enc P w 0 (fun _ => true) true t v d ps) :
    ∃ A n c, ∃ f : Nat → PtF, v = .slice A n c ∧ n ≤ 9223372036854775807 ∧ InPt w A n f ∧ ∀ j, (f j).In := by
  obtain ⟨A, n, c, rfl⟩ := okWide_slice ht hval
  obtain ⟨fuel, hf⟩ := h
  rcases open_slice ht hf with ⟨hcs, _⟩ | ⟨a, len, cap, m, k, D, Pl, hcs, _, hl, hmx, hm, _, hx⟩
  · simp [Value.cells] at hcs
    obtain ⟨rfl, rfl, rfl⟩ := hcs
    exact ⟨none, 0, 0, fun _ => ⟨0, 0, 0, 0⟩, rfl, Nat.zero_le _, fun h => absurd h (by omega), fun _ => ⟨by simp, by simp, by simp, by simp⟩⟩
  · simp [Value.cells] at hcs
    obtain ⟨rfl, rfl, rfl⟩ := hcs
    simp only [if_true] at hm
    subst hm
    rw [hC] at hx
    have each : ∀ i, ∃ q : PtF, q.In ∧
        (i < n → w.cell? (a.add (i * 4)) = some (.int .u8 (q.k : Int)) ∧ w.cell? (a.add (i * 4 + 1)) = some (.int .u8 (q.into : Int)) ∧ w.cell? (a.add (i * 4 + 2)) = some (.int .u8 (q.nm : Int)) ∧ w.cell? (a.add (i * 4 + 3)) = some (.int .u8 (q.fl : Int))) := by
      intro i
      by_cases hi : i < n
      · obtain ⟨cs, h1, h2⟩ := hx i (by omega)
        obtain ⟨_, hlen, hcell⟩ := World.cells?_some h1
        obtain ⟨o0, k0⟩ := hone_of hone 0 f0 rfl
        obtain ⟨o1, k1⟩ := hone_of hone 1 f1 rfl
        obtain ⟨o2, k2⟩ := hone_of hone 2 f2 rfl
        obtain ⟨o3, k3⟩ := hone_of hone 3 f3 rfl
        obtain ⟨xs, k', _, _, _, hxl, hg⟩ := DataW.trod_struct he h2
        match xs, hxl, cs, hlen with
        | [y0, y1, y2, y3], _, [v0, v1, v2, v3], _ =>
          have g0 := hg 0 f0 rfl
          have g1 := hg 1 f1 rfl
          have g2 := hg 2 f2 rfl
          have g3 := hg 3 f3 rfl
          simp [o0, o1, o2, o3, k0, k1, k2, k3] at g0 g1 g2 g3
          obtain ⟨x0, z0, _, w0⟩ := DataW.trod_int e0 g0
          obtain ⟨x1, z1, _, w1⟩ := DataW.trod_int e1 g1
          obtain ⟨x2, z2, _, w2⟩ := DataW.trod_int e2 g2
          obtain ⟨x3, z3, _, w3⟩ := DataW.trod_int e3 g3
          simp at z0 z1 z2 z3
          subst z0 z1 z2 z3
          have b0 := byte_inF w0
          have b1 := byte_inF w1
          have b2 := byte_inF w2
          have b3 := byte_inF w3
          obtain ⟨x0, rfl⟩ := Int.eq_ofNat_of_zero_le b0.1
          obtain ⟨x1, rfl⟩ := Int.eq_ofNat_of_zero_le b1.1
          obtain ⟨x2, rfl⟩ := Int.eq_ofNat_of_zero_le b2.1
          obtain ⟨x3, rfl⟩ := Int.eq_ofNat_of_zero_le b3.1
          refine ⟨⟨x0, x1, x2, x3⟩, ⟨by simp only []; omega, by simp only []; omega, by simp only []; omega, by simp only []; omega⟩, fun _ => ⟨?_, ?_, ?_, ?_⟩⟩
          · have := hcell 0 (by omega); simpa [Addr.add] using this
          · have := hcell 1 (by omega); rw [Go.Deep.add_add] at this; simpa using this
          · have := hcell 2 (by omega); rw [Go.Deep.add_add] at this; simpa using this
          · have := hcell 3 (by omega); rw [Go.Deep.add_add] at this; simpa using this
      · exact ⟨⟨0, 0, 0, 0⟩, ⟨by simp, by simp, by simp, by simp⟩, fun h => absurd h hi⟩
    obtain ⟨F, hF⟩ := Classical.axiomOfChoice each
    refine ⟨some a, n, _, F, rfl, by unfold maxLen at hmx; omega, fun hn => ?_, fun j => (hF j).1⟩
    have hc := fun i hi => (hF i).2 hi
    clear hF each
    obtain ⟨b, off, el⟩ := a
    have h0 := (hc 0 hn).1
    have hel : el = none := by simpa [Addr.add] using World.cell?_spot h0
    subst hel
    refine ⟨b, off, rfl, ?_, fun i hi => ?_⟩
    · have := World.block_lt_of_cell? _ _ h0
      rw [Go.WideShapes.add_plain] at this
      exact this
    · obtain ⟨q0, q1, q2, q3⟩ := hc i hi
      rw [Go.WideShapes.add_plain] at q0 q1 q2 q3
      exact ⟨q0, q1, q2, q3⟩
end
end Go.Proofs.YtacdbnhnhdlmpaaGreatDoor.W
end
section
namespace Go.Proofs.YtacdbnhnhdlmpaaGreatDoor.W
open Go.RowKit
section
variable {B R : Nat} {S : Tr} {sv fv : Value} {K : Nat → List Nat} {d : Nat → Nat} {w : World}
theorem hdC_get {w : World} {B n : Nat} {a : Option Addr} {c : Nat} {l : List Nat} (h : w.ownsRow B 3 1 (.slice a n c) l.length (hdC S l)) {t k : Nat} (hk : l[t]? = some k) : ∃ g, a = some ⟨g, 0, none⟩ ∧ n = l.length ∧ l.length ≤ c ∧ w.cell? ⟨g, t, none⟩ = some (.int .i64 (S.hd k)) := by
  have hpos : 0 < l.length := by have := (List.getElem?_eq_some_iff.1 hk).1; omega
  have h0 : Own w 3 1 (.slice a n c) l.length (hdC S l) := own_low h (Nat.zero_le _)
  obtain ⟨g, cap, e, hc⟩ := own_some h0 hpos
  cases e
  refine ⟨g, rfl, rfl, by omega, ?_⟩
  rw [h0.cellAt t (by have := (List.getElem?_eq_some_iff.1 hk).1; omega)]
  simp [hdC, hk]
end
section
variable {B R : Nat} {S : Tr} {sv fv : Value} {w : World} {K : Nat → List Nat} {d : Nat → Nat}
theorem order_any (D : DcOk S K d) (h : TAt B R S sv fv w) :
    Calls Tryz.prog 83 #[.pointer (some ⟨R, 0, none⟩)] w fun e w' => ∃ v, e = .returned v ∧ w'.ownsRow w.heap.size 3 1 v (ord K d).length (hdC S (ord K d)) ∧ Below w.heap.size w w' := by
  obtain ⟨n0, hn0⟩ := Option.isSome_iff_exists.1 D.live0
  have HW := Lib.hid (swalk_any (B := B) (R := R) (sv := sv) (fv := fv) D.lk (fun f i n hi => Nat.le_trans (wlk_len D.lk f i (by rw [hi]; rfl)) (by have := D.len; omega)) D.al (128 - d 0) 0 n0 hn0 rfl w h)
  have c5 := h.blk.cell 5
  simp only [List.getElem?_cons_succ, List.getElem?_cons_zero] at c5
  rw [D.ok.root] at c5
  unfold ord
  generalize wlk K (128 - d 0) 0 = ol at *
  generalize S.hd 0 = h0 at *
  clear h hn0
  go_enter Tryz.func83, Tryz.ntmps83
  go_wp2_with fail
  refine HW.out.mono ?_
  rintro e w1 ⟨v, rfl, hv, hb1⟩
  have HV := Lib.hid hv
  have HB := Lib.hid hb1
  clear hv hb1
  go_wp2_with fail
  go_ret
  exact ⟨v, rfl, HV.out, HB.out⟩
theorem filter_snoc {α : Type} (p : α → Bool) (l : List α) (x : α) : (l ++ [x]).filter p = if p x = true then l.filter p ++ [x] else l.filter p := by
  rw [List.filter_append]
  cases h : p x <;> simp [List.filter, h]
end
theorem reg_f {P : Program} {id : Nat} {Q' : Exit → Act → World → Prop} {a : Act} {w : World} {ls : List Oper} (F : List Value → World → Prop) (V : List Value → Value → Prop) (m : Nat)
    (hm : P.follows .mixedOrders = true) (hB : all4 .any ls.toArray m (ls.length - m) = true) (hF : ∀ k w1 w2, F k w1 → Below w1.heap.size w1 w2 → F k w2) (h0 : F [] w)
    (h : RV.wp4 P ls.toArray ⟨StB w, fun k X w' => StB w w' ∧ F k w', V, fun _ _ => undef, fun _ => [], fun _ => 0⟩ (fun k X a' => ∀ w', StB w w' → F k w' → wpList P ls.toArray Q' (ls.drop m) a' w') 0 [] [] (ls.take m) a) : (Code.region id ls.toArray true).wp P Q' a w :=
  RV.reg_m ⟨StB w, fun k X w' => StB w w' ∧ F k w', V, fun _ _ => undef, fun _ => [], fun _ => 0⟩ m hm hB (fun k X w h => h.1) (fun k X w' cs ty h => ⟨bthen h.1 ((Below.refl _ _).alloc (Nat.le_refl _) _), hF k _ _ h.2 ((Below.refl _ _).alloc (Nat.le_refl _) _)⟩) (fun k X Y w hp h => h) ⟨(Below.refl _ _).drew, hF [] _ _ h0 ((Below.refl _ _).drew)⟩ (by
    refine cast ?_ h
    congr 1
    funext k X a'
    exact propext ⟨fun g w' hw => g w' hw.1 hw.2, fun g w' h1 h2 => g w' ⟨h1, h2⟩⟩)
end Go.Proofs.YtacdbnhnhdlmpaaGreatDoor.W
end
