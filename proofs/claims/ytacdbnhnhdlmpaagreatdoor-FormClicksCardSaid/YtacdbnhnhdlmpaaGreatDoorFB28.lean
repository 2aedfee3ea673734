/- Texts joined: PtA. -/
import Derived.Test.YtacdbnhnhdlmpaaGreatDoorFB26
import Derived.Test.YtacdbnhnhdlmpaaGreatDoorFB17
import Derived.Test.YtacdbnhnhdlmpaaGreatDoorFB27
import Derived.Deep.CutBlock
import Derived.Deep.Cut
import Derived.Laws.BitsAllLaws
set_option maxRecDepth 100000
set_option maxHeartbeats 40000000
set_option linter.unusedVariables false
set_option linter.unusedSimpArgs false
section
namespace Go.Proofs.YtacdbnhnhdlmpaaGreatDoor.W
open Go.RowKit
def AtI (w1 : World) (L : List Atr) (v : Value) (wx : World) : Prop := wx.ownsRow w1.heap.size 85 2 v L.length (attrC L) ∧ Below w1.heap.size w1 wx
theorem AtI.no {w1 : World} {L I : List Atr} {v : Value} {wx : World} (h : AtI w1 L v wx) (e : I = []) : AtI w1 (L ++ I) v wx := by rw [e, List.append_nil]; exact h
theorem AtI.one {w1 : World} {L I : List Atr} {v : Value} {wx : World} {x : Atr} (h : wx.ownsRow w1.heap.size 85 2 v (L.length + 1) (attrC L ++ attrC [x])) (hb : Below w1.heap.size w1 wx) (e : I = [x]) : AtI w1 (L ++ I) v wx := by
  rw [e]
  refine ⟨?_, hb⟩
  rw [List.length_append, attrC_app]
  exact h
theorem if1_len {c : Prop} [Decidable c] {x : Atr} {I : List Atr} (h : (if c then [x] else []) = I) : I.length ≤ 1 := by rw [← h]; split <;> simp
theorem and_1 (x : Nat) (hx : x ≤ 255) : bits .and .u8 (x : Int) 1 = ((x % 2 : Nat) : Int) := by
  have h : ∀ y : Fin 256, bits .and .u8 ((y.1 : Nat) : Int) 1 = ((y.1 % 2 : Nat) : Int) := by decide +kernel
  exact h ⟨x, by omega⟩
theorem and_2 (x : Nat) (hx : x ≤ 255) : bits .and .u8 (x : Int) 2 = ((x / 2 % 2 * 2 : Nat) : Int) := by
  have h : ∀ y : Fin 256, bits .and .u8 ((y.1 : Nat) : Int) 2 = ((y.1 / 2 % 2 * 2 : Nat) : Int) := by decide +kernel
  exact h ⟨x, by omega⟩
theorem and_4 (x : Nat) (hx : x ≤ 255) : bits .and .u8 (x : Int) 4 = ((x / 4 % 2 * 4 : Nat) : Int) := by
  have h : ∀ y : Fin 256, bits .and .u8 ((y.1 : Nat) : Int) 4 = ((y.1 / 4 % 2 * 4 : Nat) : Int) := by decide +kernel
  exact h ⟨x, by omega⟩
theorem enc_i (i : Nat) : Utf8.encode (97 + (i : Int) % 26) = ⟨#[(97 + i % 26).toUInt8]⟩ := by
  have h : ∀ y : Fin 26, Utf8.encode (97 + ((y.1 : Nat) : Int)) = ⟨#[(97 + y.1).toUInt8]⟩ := by decide +kernel
  exact h ⟨i % 26, Nat.mod_lt _ (by omega)⟩
theorem tmod_nat (a b : Nat) : Int.tmod (a : Int) (b : Int) = ((a % b : Nat) : Int) := by rw [Int.tmod_eq_emod_of_nonneg (by omega)]; rfl
set_option maxRecDepth 100000 in
set_option maxHeartbeats 40000000 in
theorem pattrs_any (w : World) (p : PtF) (hp : p.In) (i : Nat) (hi : i ≤ 1000) :
    Calls Tryz.prog 73 #[.agg #[.int .u8 (p.k : Int), .int .u8 (p.into : Int), .int .u8 (p.nm : Int), .int .u8 (p.fl : Int)], .int .i64 (i : Int)] w fun e w' => ∃ v, e = .returned v ∧ w'.ownsRow w.heap.size 85 2 v (atL p i).length (attrC (atL p i)) ∧ Below w.heap.size w w' := by
  obtain ⟨k, io, nm, fl⟩ := p
  obtain ⟨hk, hio, hnm, hfl⟩ := hp
  simp only at hk hio hnm hfl ⊢
  have hb1 := (Below.refl w.heap.size w).alloc (Nat.le_refl _) (.cells #[.int .u8 (k : Int), .int .u8 (io : Int), .int .u8 (nm : Int), .int .u8 (fl : Int)] 132)
  have hb2 := hb1.alloc hb1.size (.cells (tnL.map strV).toArray 9)
  have kb := (Blk.new w [.int .u8 (k : Int), .int .u8 (io : Int), .int .u8 (nm : Int), .int .u8 (fl : Int)] 132).alloc (.cells (tnL.map strV).toArray 9)
  have kt := Blk.new (w.alloc (.cells #[.int .u8 (k : Int), .int .u8 (io : Int), .int .u8 (nm : Int), .int .u8 (fl : Int)] 132)) (tnL.map strV) 9
  rw [show (w.alloc (.cells #[.int .u8 (k : Int), .int .u8 (io : Int), .int .u8 (nm : Int), .int .u8 (fl : Int)] 132)).heap.size = w.heap.size + 1 by simp] at kt
  obtain ⟨m, hm⟩ : ∃ m, k % 10 = m := ⟨_, rfl⟩
  obtain ⟨a2, ha2⟩ : ∃ a2, fl % 2 = a2 := ⟨_, rfl⟩
  obtain ⟨a3, ha3⟩ : ∃ a3, fl % 3 = a3 := ⟨_, rfl⟩
  obtain ⟨n4, hn4⟩ : ∃ n4, nm % 4 = n4 := ⟨_, rfl⟩
  have hm10 : m < 10 := by omega
  have a2b : a2 < 2 := by omega
  have a3b : a3 < 3 := by omega
  have n4b : n4 < 4 := by omega
  have hmod : Int.tmod (k : Int) 10 = (m : Int) := by rw [← hm]; exact tmod_nat k 10
  have hmo2 : Int.tmod (fl : Int) 2 = (a2 : Int) := by rw [← ha2]; exact tmod_nat fl 2
  have hmo3 : Int.tmod (fl : Int) 3 = (a3 : Int) := by rw [← ha3]; exact tmod_nat fl 3
  have hmo4 : Int.tmod (nm : Int) 4 = (n4 : Int) := by rw [← hn4]; exact tmod_nat nm 4
  have hmoi0 : Int.tmod (i : Int) 26 = ((i % 26 : Nat) : Int) := tmod_nat i 26
  obtain ⟨x2, hx2⟩ : ∃ x2, fl / 2 % 2 * 2 = x2 := ⟨_, rfl⟩
  obtain ⟨x4, hx4⟩ : ∃ x4, fl / 4 % 2 * 4 = x4 := ⟨_, rfl⟩
  have han1 : bits .and .u8 (fl : Int) 1 = (a2 : Int) := by rw [and_1 fl hfl, ha2]
  have han2 : bits .and .u8 (fl : Int) 2 = (x2 : Int) := by rw [and_2 fl hfl, hx2]
  have han4 : bits .and .u8 (fl : Int) 4 = (x4 : Int) := by rw [and_4 fl hfl, hx4]
  have eq2 : (fl / 2 % 2 = 1) = (0 < x2) := by rw [← hx2]; exact propext ⟨fun _ => by omega, fun _ => by omega⟩
  have eq4 : (fl / 4 % 2 = 1) = (0 < x4) := by rw [← hx4]; exact propext ⟨fun _ => by omega, fun _ => by omega⟩
  obtain ⟨AL, hAL⟩ : ∃ AL, atL ⟨k, io, nm, fl⟩ i = AL := ⟨_, rfl⟩
  rw [hAL]
  unfold atL at hAL
  simp only [hm, ha2, ha3, hn4, eq2, eq4] at hAL
  obtain ⟨I1, hI1⟩ : ∃ I, (if tnS m ≠ [] then [(sType, tnS m)] else []) = I := ⟨_, rfl⟩
  obtain ⟨I2, hI2⟩ : ∃ I, (if m = 8 ∧ a2 = 1 then [(sType, sButton)] else []) = I := ⟨_, rfl⟩
  obtain ⟨I3, hI3⟩ : ∃ I, (if m = 9 then [hrL.getD a3 ([], [])] else []) = I := ⟨_, rfl⟩
  obtain ⟨I4, hI4⟩ : ∃ I, (if n4 > 0 then [(sName, nmL.getD n4 [])] else []) = I := ⟨_, rfl⟩
  obtain ⟨I5, hI5⟩ : ∃ I, (if a2 = 1 ∧ m ≠ 9 then [(sChecked, ([] : List UInt8))] else []) = I := ⟨_, rfl⟩
  obtain ⟨I6, hI6⟩ : ∃ I, (if 0 < x2 ∧ m ≠ 9 then [(sDisab, ([] : List UInt8))] else []) = I := ⟨_, rfl⟩
  obtain ⟨I7, hI7⟩ : ∃ I, (if 0 < x4 ∧ m ≠ 9 then [(sValue, [(97 + i % 26).toUInt8])] else []) = I := ⟨_, rfl⟩
  rw [hI1, hI2, hI3, hI4, hI5, hI6, hI7] at hAL
  have hl1 := if1_len hI1
  have hl2 := if1_len hI2
  have hl3 := if1_len hI3
  have hl4 := if1_len hI4
  have hl5 := if1_len hI5
  have hl6 := if1_len hI6
  have hl7 := if1_len hI7
  have HAL := Lib.hid (show ((((((([] ++ I1) ++ I2) ++ I3) ++ I4) ++ I5) ++ I6) ++ I7) = AL from by rw [← hAL]; simp only [List.nil_append, List.append_assoc])
  have htc : (w.alloc (.cells #[.int .u8 (k : Int), .int .u8 (io : Int), .int .u8 (nm : Int), .int .u8 (fl : Int)] 132)).alloc (.cells (tnL.map strV).toArray 9) = (w.alloc (.cells #[.int .u8 (k : Int), .int .u8 (io : Int), .int .u8 (nm : Int), .int .u8 (fl : Int)] 132)).alloc (.cells (tnL.map strV).toArray 9) := rfl
  clear hm ha2 ha3 hn4 hAL hb1 htc hx2 hx4 eq2 eq4
  have HB2 := Lib.hid hb2
  have HKb := Lib.hid kb
  have HKt := Lib.hid kt
  clear hb2 kb kt
  have HMoi := Lib.hid hmoi0
  have HI1 := Lib.hid hI1
  have HI2 := Lib.hid hI2
  have HI3 := Lib.hid hI3
  have HI4 := Lib.hid hI4
  have HI5 := Lib.hid hI5
  have HI6 := Lib.hid hI6
  have HI7 := Lib.hid hI7
  clear hmoi0 hI1 hI2 hI3 hI4 hI5 hI6 hI7
  go_enter Tryz.func73, Tryz.ntmps73
  go_upto_region 3 with fail
  generalize hw2 : (w.alloc (.cells #[.int .u8 (k : Int), .int .u8 (io : Int), .int .u8 (nm : Int), .int .u8 (fl : Int)] 132)).alloc (.cells (tnL.map strV).toArray 9) = w2 at *
  rw [show (w.alloc (.cells #[.int .u8 (k : Int), .int .u8 (io : Int), .int .u8 (nm : Int), .int .u8 (fl : Int)] 132)).alloc (.cells #[.string ⟨#[]⟩, .string ⟨#[]⟩, .string ⟨#[116, 101, 120, 116]⟩, .string ⟨#[]⟩, .string ⟨#[99, 104, 101, 99, 107, 98, 111, 120]⟩, .string ⟨#[114, 97, 100, 105, 111]⟩, .string ⟨#[104, 105, 100, 100, 101, 110]⟩, .string ⟨#[115, 117, 98, 109, 105, 116]⟩, .string ⟨#[]⟩, .string ⟨#[]⟩] 9) = w2 from hw2]
  clear hw2
  have ht : (tnL.map strV)[m]? = some (.string ⟨(tnS m).toArray⟩) := by
    unfold tnS
    rw [List.getElem?_map, List.getD_eq_getElem?_getD, List.getElem?_eq_getElem (show m < tnL.length from hm10)]
    rfl
  have ct : w2.cell? ⟨w.heap.size + 1, m, none⟩ = some (.string ⟨(tnS m).toArray⟩) := (HKt.out.cell m).trans ht
  have c0 := HKb.out.cell 0
  simp only [List.getElem?_cons_succ, List.getElem?_cons_zero] at c0
  have h0 : AtI w2 [] (.slice none 0 0) w2 := ⟨World.ownsRow_nil _ _ _ _, Below.refl _ _⟩
  have HC := Lib.hid h0
  generalize hts : tnS m = ts at *
  clear h0 ht hts HKt
  obtain ⟨b1, hbb⟩ : ∃ b : Bool, decide (ts ≠ []) = b := ⟨_, rfl⟩
  have HBB := Lib.hid hbb
  clear hbb
  go_upto_region 4 with fail
  go_cut [16] (fun cv wx => cv = .bool b1 ∧ wx = w2)
  case first =>
    by_cases hA : ts ≠ []
    · have gA : (!ts.isEmpty) = true := by simpa using hA
      have HR := Lib.hid (decide_eq_true hA)
      clear hA
      go_wp2_with fail
      go_meet
      exact ⟨by rw [← HBB.out, HR.out], rfl⟩
    · have gA : (!ts.isEmpty) = false := by simpa using hA
      have HR := Lib.hid (decide_eq_false hA)
      clear hA
      go_wp2_with fail
      go_meet
      exact ⟨by rw [← HBB.out, HR.out], rfl⟩
  case rest =>
  obtain ⟨rfl, hw⟩ := hcut
  rw [hw]
  clear hw
  go_upto_if 16 with fail
  go_cut [5] (fun ov wx => AtI w2 ([] ++ I1) ov wx)
  case first =>
    cases b1 with
    | false =>
      have hcc := of_decide_eq_false HBB.out
      have HQ := Lib.hid (show I1 = [] from by rw [← HI1.out, if_neg hcc])
      clear hcc
      go_wp2_with fail
      go_meet
      exact HC.out.no HQ.out
    | true =>
      have hcc := of_decide_eq_true HBB.out
      have HCz := HC
      have HQ := Lib.hid (show I1 = [(sType, ts)] from by rw [← HI1.out, if_pos hcc])
      have HWx := Lib.hid (own_at (n := 1) (size := 2) (Blk.new w2 (attrC [(sType, ts)]) 85) rfl (by omega))
      have hb5 := (Below.refl w2.heap.size w2).alloc (Nat.le_refl _) (.cells #[.string ⟨#[116, 121, 112, 101]⟩, .string ⟨ts.toArray⟩] 85)
      have HO5 := Lib.hid (own_keepB HCz.out.1 hb5)
      have hB5 := bthen HCz.out.2 hb5
      have HB5 := Lib.hid hB5
      have hsz := hB5.size
      have hlt5 := fun g hg => (HO5.out.lt g hg).1
      clear hB5 hb5 hcc
      go_wp2_with (at_builtin; refine wpList_append_B etT HO5.out hsz HWx.out (attrC_one _) (by first | omega | (simp only [List.length_nil]; omega)) (by omega) rfl _ _ rfl rfl rfl ?_)
      intro v' w5 ho5 hg5 _
      obtain ⟨va5, vc5, rfl⟩ := own_shapeB ho5
      have HO6 := Lib.hid ho5
      have HB6 := Lib.hid (HB5.out.grown hg5 hsz (fun k hk => hlt5 k hk))
      clear ho5 hg5 hlt5 HO5
      go_wp2_with fail
      go_meet
      exact AtI.one HO6.out HB6.out HQ.out
  case rest =>
  obtain ⟨L1, hLj⟩ : ∃ L, [] ++ I1 = L := ⟨_, rfl⟩
  rw [hLj] at hcut
  have HL1 := Lib.hid hLj
  have kl1 : L1.length ≤ 1 := by rw [← hLj, List.length_append]; simp only [List.length_nil]; omega
  clear hLj
  obtain ⟨oa, oc, rfl⟩ := own_shapeB hcut.1
  have HC := Lib.hid hcut
  have kq := HKb.out.below hcut.2
  have c0 := kq.cell 0
  have c2 := kq.cell 2
  have c3 := kq.cell 3
  simp only [List.getElem?_cons_succ, List.getElem?_cons_zero] at c0 c2 c3
  clear kq hcut
  obtain ⟨b2, hbb⟩ : ∃ b : Bool, decide (m = 8 ∧ a2 = 1) = b := ⟨_, rfl⟩
  have HBB := Lib.hid hbb
  clear hbb
  go_upto_region 6 with fail
  go_cut [31] (fun cv wx => cv = .bool b2 ∧ wx = wc)
  case first =>
    by_cases hA : m = 8
    · have gA : ((m : Int) == 8) = true := by simp [hA]
      by_cases hB : a2 = 1
      · have gB : ((a2 : Int) == 1) = true := by simp; omega
        have HR := Lib.hid (decide_eq_true (p := (m = 8) ∧ (a2 = 1)) (And.intro hA hB))
        clear hA hB
        go_wp2_with fail
        go_meet
        exact ⟨by rw [← HBB.out, HR.out], rfl⟩
      · have gB : ((a2 : Int) == 1) = false := by simp; omega
        have HR := Lib.hid (decide_eq_false (p := (m = 8) ∧ (a2 = 1)) (fun q => hB (And.right q)))
        clear hA hB
        go_wp2_with fail
        go_meet
        exact ⟨by rw [← HBB.out, HR.out], rfl⟩
    · have gA : ((m : Int) == 8) = false := by simp; omega
      have HR := Lib.hid (decide_eq_false (p := (m = 8) ∧ (a2 = 1)) (fun q => hA (And.left q)))
      clear hA
      go_wp2_with fail
      go_meet
      exact ⟨by rw [← HBB.out, HR.out], rfl⟩
  case rest =>
  obtain ⟨rfl, hw⟩ := hcut
  subst hw
  go_upto_if 31 with fail
  go_cut [5] (fun ov wx => AtI w2 (L1 ++ I2) ov wx)
  case first =>
    cases b2 with
    | false =>
      have hcc := of_decide_eq_false HBB.out
      have HQ := Lib.hid (show I2 = [] from by rw [← HI2.out, if_neg hcc])
      clear hcc
      go_wp2_with fail
      go_meet
      exact HC.out.no HQ.out
    | true =>
      have hcc := of_decide_eq_true HBB.out
      have HCz := HC
      have HQ := Lib.hid (show I2 = [(sType, sButton)] from by rw [← HI2.out, if_pos hcc])
      have HWx := Lib.hid (own_at (n := 1) (size := 2) (Blk.new wc (attrC [(sType, sButton)]) 85) rfl (by omega))
      have hb5 := (Below.refl wc.heap.size wc).alloc (Nat.le_refl _) (.cells #[.string ⟨#[116, 121, 112, 101]⟩, .string ⟨#[98, 117, 116, 116, 111, 110]⟩] 85)
      have HO5 := Lib.hid (own_keepB HCz.out.1 hb5)
      have hB5 := bthen HCz.out.2 hb5
      have HB5 := Lib.hid hB5
      have hsz := hB5.size
      have hlt5 := fun g hg => (HO5.out.lt g hg).1
      clear hB5 hb5 hcc
      go_wp2_with (at_builtin; refine wpList_append_B etT HO5.out hsz HWx.out (attrC_one _) (by first | omega | (simp only [List.length_nil]; omega)) (by omega) rfl _ _ rfl rfl rfl ?_)
      intro v' w5 ho5 hg5 _
      obtain ⟨va5, vc5, rfl⟩ := own_shapeB ho5
      have HO6 := Lib.hid ho5
      have HB6 := Lib.hid (HB5.out.grown hg5 hsz (fun k hk => hlt5 k hk))
      clear ho5 hg5 hlt5 HO5
      go_wp2_with fail
      go_meet
      exact AtI.one HO6.out HB6.out HQ.out
  case rest =>
  obtain ⟨L2, hLj⟩ : ∃ L, L1 ++ I2 = L := ⟨_, rfl⟩
  rw [hLj] at hcut
  have HL2 := Lib.hid hLj
  have kl2 : L2.length ≤ 2 := by rw [← hLj, List.length_append]; omega
  clear hLj
  obtain ⟨oa, oc, rfl⟩ := own_shapeB hcut.1
  have HC := Lib.hid hcut
  have kq := HKb.out.below hcut.2
  have c0 := kq.cell 0
  have c2 := kq.cell 2
  have c3 := kq.cell 3
  simp only [List.getElem?_cons_succ, List.getElem?_cons_zero] at c0 c2 c3
  clear kq hcut
  obtain ⟨b3, hbb⟩ : ∃ b : Bool, decide (m = 9) = b := ⟨_, rfl⟩
  have HBB := Lib.hid hbb
  clear hbb
  go_upto_region 8 with fail
  go_cut [39] (fun cv wx => cv = .bool b3 ∧ wx = wc)
  case first =>
    by_cases hA : m = 9
    · have gA : (((m : Int) == 9)) = true := by simp [hA]
      have HR := Lib.hid (decide_eq_true hA)
      clear hA
      go_wp2_with fail
      go_meet
      exact ⟨by rw [← HBB.out, HR.out], rfl⟩
    · have gA : (((m : Int) == 9)) = false := by simp; omega
      have HR := Lib.hid (decide_eq_false hA)
      clear hA
      go_wp2_with fail
      go_meet
      exact ⟨by rw [← HBB.out, HR.out], rfl⟩
  case rest =>
  obtain ⟨rfl, hw⟩ := hcut
  subst hw
  go_upto_if 39 with fail
  go_cut [5] (fun ov wx => AtI w2 (L2 ++ I3) ov wx)
  case first =>
    cases b3 with
    | false =>
      have hcc := of_decide_eq_false HBB.out
      have HQ := Lib.hid (show I3 = [] from by rw [← HI3.out, if_neg hcc])
      clear hcc
      go_wp2_with fail
      go_meet
      exact HC.out.no HQ.out
    | true =>
      have hcc := of_decide_eq_true HBB.out
      rcases (show a3 = 0 ∨ a3 = 1 ∨ a3 = 2 by omega) with rfl | rfl | rfl
      · have hbz := (Below.refl wc.heap.size wc).alloc (Nat.le_refl _) (.cells #[.string ⟨#[104, 114, 101, 102]⟩, .string ⟨#[120]⟩, .string ⟨#[116, 97, 98, 105, 110, 100, 101, 120]⟩, .string ⟨#[48]⟩, .string ⟨#[116, 97, 98, 105, 110, 100, 101, 120]⟩, .string ⟨#[45, 49]⟩] 85)
        have kz := Blk.new wc [.string ⟨#[104, 114, 101, 102]⟩, .string ⟨#[120]⟩, .string ⟨#[116, 97, 98, 105, 110, 100, 101, 120]⟩, .string ⟨#[48]⟩, .string ⟨#[116, 97, 98, 105, 110, 100, 101, 120]⟩, .string ⟨#[45, 49]⟩] 85
        have z0 := kz.cell 0
        have z1 := kz.cell 1
        simp only [List.getElem?_cons_succ, List.getElem?_cons_zero] at z0 z1
        have HCz := Lib.hid (show AtI w2 L2 _ _ from ⟨own_keepB HC.out.1 hbz, bthen HC.out.2 hbz⟩)
        have kq := (HKb.out.below (bthen HC.out.2 hbz))
        have c3 := kq.cell 3
        simp only [List.getElem?_cons_succ, List.getElem?_cons_zero] at c3
        clear kq
        have hWZ : (wc.alloc (.cells #[.string ⟨#[104, 114, 101, 102]⟩, .string ⟨#[120]⟩, .string ⟨#[116, 97, 98, 105, 110, 100, 101, 120]⟩, .string ⟨#[48]⟩, .string ⟨#[116, 97, 98, 105, 110, 100, 101, 120]⟩, .string ⟨#[45, 49]⟩] 85)).heap.size = wc.heap.size + 1 := by simp
        clear kz hbz
        have HQ := Lib.hid (show I3 = [(sHref, [120])] from by rw [← HI3.out, if_pos hcc]; rfl)
        have kw := Blk.new (wc.alloc (.cells #[.string ⟨#[104, 114, 101, 102]⟩, .string ⟨#[120]⟩, .string ⟨#[116, 97, 98, 105, 110, 100, 101, 120]⟩, .string ⟨#[48]⟩, .string ⟨#[116, 97, 98, 105, 110, 100, 101, 120]⟩, .string ⟨#[45, 49]⟩] 85)) (attrC [(sHref, [120])]) 85
        rw [hWZ] at kw
        have HWx := Lib.hid (own_at (n := 1) (size := 2) kw rfl (by omega))
        clear kw hWZ
        have hb5 := (Below.refl (wc.alloc (.cells #[.string ⟨#[104, 114, 101, 102]⟩, .string ⟨#[120]⟩, .string ⟨#[116, 97, 98, 105, 110, 100, 101, 120]⟩, .string ⟨#[48]⟩, .string ⟨#[116, 97, 98, 105, 110, 100, 101, 120]⟩, .string ⟨#[45, 49]⟩] 85)).heap.size (wc.alloc (.cells #[.string ⟨#[104, 114, 101, 102]⟩, .string ⟨#[120]⟩, .string ⟨#[116, 97, 98, 105, 110, 100, 101, 120]⟩, .string ⟨#[48]⟩, .string ⟨#[116, 97, 98, 105, 110, 100, 101, 120]⟩, .string ⟨#[45, 49]⟩] 85))).alloc (Nat.le_refl _) (.cells #[.string ⟨#[104, 114, 101, 102]⟩, .string ⟨#[120]⟩] 85)
        have HO5 := Lib.hid (own_keepB HCz.out.1 hb5)
        have hB5 := bthen HCz.out.2 hb5
        have HB5 := Lib.hid hB5
        have hsz := hB5.size
        have hlt5 := fun g hg => (HO5.out.lt g hg).1
        clear hB5 hb5 hcc
        go_wp2_with (at_builtin; refine wpList_append_B etT HO5.out hsz HWx.out (attrC_one _) (by first | omega | (simp only [List.length_nil]; omega)) (by omega) rfl _ _ rfl rfl rfl ?_)
        intro v' w5 ho5 hg5 _
        obtain ⟨va5, vc5, rfl⟩ := own_shapeB ho5
        have HO6 := Lib.hid ho5
        have HB6 := Lib.hid (HB5.out.grown hg5 hsz (fun k hk => hlt5 k hk))
        clear ho5 hg5 hlt5 HO5
        go_wp2_with fail
        go_meet
        exact AtI.one HO6.out HB6.out HQ.out
      · have hbz := (Below.refl wc.heap.size wc).alloc (Nat.le_refl _) (.cells #[.string ⟨#[104, 114, 101, 102]⟩, .string ⟨#[120]⟩, .string ⟨#[116, 97, 98, 105, 110, 100, 101, 120]⟩, .string ⟨#[48]⟩, .string ⟨#[116, 97, 98, 105, 110, 100, 101, 120]⟩, .string ⟨#[45, 49]⟩] 85)
        have kz := Blk.new wc [.string ⟨#[104, 114, 101, 102]⟩, .string ⟨#[120]⟩, .string ⟨#[116, 97, 98, 105, 110, 100, 101, 120]⟩, .string ⟨#[48]⟩, .string ⟨#[116, 97, 98, 105, 110, 100, 101, 120]⟩, .string ⟨#[45, 49]⟩] 85
        have z0 := kz.cell 2
        have z1 := kz.cell 3
        simp only [List.getElem?_cons_succ, List.getElem?_cons_zero] at z0 z1
        have HCz := Lib.hid (show AtI w2 L2 _ _ from ⟨own_keepB HC.out.1 hbz, bthen HC.out.2 hbz⟩)
        have kq := (HKb.out.below (bthen HC.out.2 hbz))
        have c3 := kq.cell 3
        simp only [List.getElem?_cons_succ, List.getElem?_cons_zero] at c3
        clear kq
        have hWZ : (wc.alloc (.cells #[.string ⟨#[104, 114, 101, 102]⟩, .string ⟨#[120]⟩, .string ⟨#[116, 97, 98, 105, 110, 100, 101, 120]⟩, .string ⟨#[48]⟩, .string ⟨#[116, 97, 98, 105, 110, 100, 101, 120]⟩, .string ⟨#[45, 49]⟩] 85)).heap.size = wc.heap.size + 1 := by simp
        clear kz hbz
        have HQ := Lib.hid (show I3 = [(sTabi, [48])] from by rw [← HI3.out, if_pos hcc]; rfl)
        have kw := Blk.new (wc.alloc (.cells #[.string ⟨#[104, 114, 101, 102]⟩, .string ⟨#[120]⟩, .string ⟨#[116, 97, 98, 105, 110, 100, 101, 120]⟩, .string ⟨#[48]⟩, .string ⟨#[116, 97, 98, 105, 110, 100, 101, 120]⟩, .string ⟨#[45, 49]⟩] 85)) (attrC [(sTabi, [48])]) 85
        rw [hWZ] at kw
        have HWx := Lib.hid (own_at (n := 1) (size := 2) kw rfl (by omega))
        clear kw hWZ
        have hb5 := (Below.refl (wc.alloc (.cells #[.string ⟨#[104, 114, 101, 102]⟩, .string ⟨#[120]⟩, .string ⟨#[116, 97, 98, 105, 110, 100, 101, 120]⟩, .string ⟨#[48]⟩, .string ⟨#[116, 97, 98, 105, 110, 100, 101, 120]⟩, .string ⟨#[45, 49]⟩] 85)).heap.size (wc.alloc (.cells #[.string ⟨#[104, 114, 101, 102]⟩, .string ⟨#[120]⟩, .string ⟨#[116, 97, 98, 105, 110, 100, 101, 120]⟩, .string ⟨#[48]⟩, .string ⟨#[116, 97, 98, 105, 110, 100, 101, 120]⟩, .string ⟨#[45, 49]⟩] 85))).alloc (Nat.le_refl _) (.cells #[.string ⟨#[116, 97, 98, 105, 110, 100, 101, 120]⟩, .string ⟨#[48]⟩] 85)
        have HO5 := Lib.hid (own_keepB HCz.out.1 hb5)
        have hB5 := bthen HCz.out.2 hb5
        have HB5 := Lib.hid hB5
        have hsz := hB5.size
        have hlt5 := fun g hg => (HO5.out.lt g hg).1
        clear hB5 hb5 hcc
        go_wp2_with (at_builtin; refine wpList_append_B etT HO5.out hsz HWx.out (attrC_one _) (by first | omega | (simp only [List.length_nil]; omega)) (by omega) rfl _ _ rfl rfl rfl ?_)
        intro v' w5 ho5 hg5 _
        obtain ⟨va5, vc5, rfl⟩ := own_shapeB ho5
        have HO6 := Lib.hid ho5
        have HB6 := Lib.hid (HB5.out.grown hg5 hsz (fun k hk => hlt5 k hk))
        clear ho5 hg5 hlt5 HO5
        go_wp2_with fail
        go_meet
        exact AtI.one HO6.out HB6.out HQ.out
      · have hbz := (Below.refl wc.heap.size wc).alloc (Nat.le_refl _) (.cells #[.string ⟨#[104, 114, 101, 102]⟩, .string ⟨#[120]⟩, .string ⟨#[116, 97, 98, 105, 110, 100, 101, 120]⟩, .string ⟨#[48]⟩, .string ⟨#[116, 97, 98, 105, 110, 100, 101, 120]⟩, .string ⟨#[45, 49]⟩] 85)
        have kz := Blk.new wc [.string ⟨#[104, 114, 101, 102]⟩, .string ⟨#[120]⟩, .string ⟨#[116, 97, 98, 105, 110, 100, 101, 120]⟩, .string ⟨#[48]⟩, .string ⟨#[116, 97, 98, 105, 110, 100, 101, 120]⟩, .string ⟨#[45, 49]⟩] 85
        have z0 := kz.cell 4
        have z1 := kz.cell 5
        simp only [List.getElem?_cons_succ, List.getElem?_cons_zero] at z0 z1
        have HCz := Lib.hid (show AtI w2 L2 _ _ from ⟨own_keepB HC.out.1 hbz, bthen HC.out.2 hbz⟩)
        have kq := (HKb.out.below (bthen HC.out.2 hbz))
        have c3 := kq.cell 3
        simp only [List.getElem?_cons_succ, List.getElem?_cons_zero] at c3
        clear kq
        have hWZ : (wc.alloc (.cells #[.string ⟨#[104, 114, 101, 102]⟩, .string ⟨#[120]⟩, .string ⟨#[116, 97, 98, 105, 110, 100, 101, 120]⟩, .string ⟨#[48]⟩, .string ⟨#[116, 97, 98, 105, 110, 100, 101, 120]⟩, .string ⟨#[45, 49]⟩] 85)).heap.size = wc.heap.size + 1 := by simp
        clear kz hbz
        have HQ := Lib.hid (show I3 = [(sTabi, [45, 49])] from by rw [← HI3.out, if_pos hcc]; rfl)
        have kw := Blk.new (wc.alloc (.cells #[.string ⟨#[104, 114, 101, 102]⟩, .string ⟨#[120]⟩, .string ⟨#[116, 97, 98, 105, 110, 100, 101, 120]⟩, .string ⟨#[48]⟩, .string ⟨#[116, 97, 98, 105, 110, 100, 101, 120]⟩, .string ⟨#[45, 49]⟩] 85)) (attrC [(sTabi, [45, 49])]) 85
        rw [hWZ] at kw
        have HWx := Lib.hid (own_at (n := 1) (size := 2) kw rfl (by omega))
        clear kw hWZ
        have hb5 := (Below.refl (wc.alloc (.cells #[.string ⟨#[104, 114, 101, 102]⟩, .string ⟨#[120]⟩, .string ⟨#[116, 97, 98, 105, 110, 100, 101, 120]⟩, .string ⟨#[48]⟩, .string ⟨#[116, 97, 98, 105, 110, 100, 101, 120]⟩, .string ⟨#[45, 49]⟩] 85)).heap.size (wc.alloc (.cells #[.string ⟨#[104, 114, 101, 102]⟩, .string ⟨#[120]⟩, .string ⟨#[116, 97, 98, 105, 110, 100, 101, 120]⟩, .string ⟨#[48]⟩, .string ⟨#[116, 97, 98, 105, 110, 100, 101, 120]⟩, .string ⟨#[45, 49]⟩] 85))).alloc (Nat.le_refl _) (.cells #[.string ⟨#[116, 97, 98, 105, 110, 100, 101, 120]⟩, .string ⟨#[45, 49]⟩] 85)
        have HO5 := Lib.hid (own_keepB HCz.out.1 hb5)
        have hB5 := bthen HCz.out.2 hb5
        have HB5 := Lib.hid hB5
        have hsz := hB5.size
        have hlt5 := fun g hg => (HO5.out.lt g hg).1
        clear hB5 hb5 hcc
        go_wp2_with (at_builtin; refine wpList_append_B etT HO5.out hsz HWx.out (attrC_one _) (by first | omega | (simp only [List.length_nil]; omega)) (by omega) rfl _ _ rfl rfl rfl ?_)
        intro v' w5 ho5 hg5 _
        obtain ⟨va5, vc5, rfl⟩ := own_shapeB ho5
        have HO6 := Lib.hid ho5
        have HB6 := Lib.hid (HB5.out.grown hg5 hsz (fun k hk => hlt5 k hk))
        clear ho5 hg5 hlt5 HO5
        go_wp2_with fail
        go_meet
        exact AtI.one HO6.out HB6.out HQ.out
  case rest =>
  obtain ⟨L3, hLj⟩ : ∃ L, L2 ++ I3 = L := ⟨_, rfl⟩
  rw [hLj] at hcut
  have HL3 := Lib.hid hLj
  have kl3 : L3.length ≤ 3 := by rw [← hLj, List.length_append]; omega
  clear hLj
  obtain ⟨oa, oc, rfl⟩ := own_shapeB hcut.1
  have HC := Lib.hid hcut
  have kq := HKb.out.below hcut.2
  have c0 := kq.cell 0
  have c2 := kq.cell 2
  have c3 := kq.cell 3
  simp only [List.getElem?_cons_succ, List.getElem?_cons_zero] at c0 c2 c3
  clear kq hcut
  obtain ⟨b4, hbb⟩ : ∃ b : Bool, decide (n4 > 0) = b := ⟨_, rfl⟩
  have HBB := Lib.hid hbb
  clear hbb
  go_upto_region 10 with fail
  go_cut [55] (fun cv wx => cv = .bool b4 ∧ wx = wc)
  case first =>
    by_cases hA : n4 > 0
    · have gA : (decide ((0 : Int) < (n4 : Int))) = true := by simp; omega
      have HR := Lib.hid (decide_eq_true hA)
      clear hA
      go_wp2_with fail
      go_meet
      exact ⟨by rw [← HBB.out, HR.out], rfl⟩
    · have gA : (decide ((0 : Int) < (n4 : Int))) = false := by simp; omega
      have HR := Lib.hid (decide_eq_false hA)
      clear hA
      go_wp2_with fail
      go_meet
      exact ⟨by rw [← HBB.out, HR.out], rfl⟩
  case rest =>
  obtain ⟨rfl, hw⟩ := hcut
  subst hw
  go_upto_if 55 with fail
  go_cut [5] (fun ov wx => AtI w2 (L3 ++ I4) ov wx)
  case first =>
    cases b4 with
    | false =>
      have hcc := of_decide_eq_false HBB.out
      have HQ := Lib.hid (show I4 = [] from by rw [← HI4.out, if_neg hcc])
      clear hcc
      go_wp2_with fail
      go_meet
      exact HC.out.no HQ.out
    | true =>
      have hcc := of_decide_eq_true HBB.out
      rcases (show n4 = 1 ∨ n4 = 2 ∨ n4 = 3 by omega) with rfl | rfl | rfl
      · have hbz := (Below.refl wc.heap.size wc).alloc (Nat.le_refl _) (.cells #[.string ⟨#[]⟩, .string ⟨#[]⟩, .string ⟨#[114]⟩, .string ⟨#[115]⟩] 9)
        have kz := Blk.new wc [.string ⟨#[]⟩, .string ⟨#[]⟩, .string ⟨#[114]⟩, .string ⟨#[115]⟩] 9
        have z0 := kz.cell 1
        simp only [List.getElem?_cons_succ, List.getElem?_cons_zero] at z0
        have HCz := Lib.hid (show AtI w2 L3 _ _ from ⟨own_keepB HC.out.1 hbz, bthen HC.out.2 hbz⟩)
        have kq := (HKb.out.below (bthen HC.out.2 hbz))
        have c2 := kq.cell 2
        simp only [List.getElem?_cons_succ, List.getElem?_cons_zero] at c2
        clear kz hbz kq
        have hWZ : (wc.alloc (.cells #[.string ⟨#[]⟩, .string ⟨#[]⟩, .string ⟨#[114]⟩, .string ⟨#[115]⟩] 9)).heap.size = wc.heap.size + 1 := by simp
        have HQ := Lib.hid (show I4 = [(sName, [])] from by rw [← HI4.out, if_pos hcc]; rfl)
        have kw := Blk.new (wc.alloc (.cells #[.string ⟨#[]⟩, .string ⟨#[]⟩, .string ⟨#[114]⟩, .string ⟨#[115]⟩] 9)) (attrC [(sName, [])]) 85
        rw [hWZ] at kw
        have HWx := Lib.hid (own_at (n := 1) (size := 2) kw rfl (by omega))
        clear kw hWZ
        have hb5 := (Below.refl (wc.alloc (.cells #[.string ⟨#[]⟩, .string ⟨#[]⟩, .string ⟨#[114]⟩, .string ⟨#[115]⟩] 9)).heap.size (wc.alloc (.cells #[.string ⟨#[]⟩, .string ⟨#[]⟩, .string ⟨#[114]⟩, .string ⟨#[115]⟩] 9))).alloc (Nat.le_refl _) (.cells #[.string ⟨#[110, 97, 109, 101]⟩, .string ⟨#[]⟩] 85)
        have HO5 := Lib.hid (own_keepB HCz.out.1 hb5)
        have hB5 := bthen HCz.out.2 hb5
        have HB5 := Lib.hid hB5
        have hsz := hB5.size
        have hlt5 := fun g hg => (HO5.out.lt g hg).1
        clear hB5 hb5 hcc
        go_wp2_with (at_builtin; refine wpList_append_B etT HO5.out hsz HWx.out (attrC_one _) (by first | omega | (simp only [List.length_nil]; omega)) (by omega) rfl _ _ rfl rfl rfl ?_)
        intro v' w5 ho5 hg5 _
        obtain ⟨va5, vc5, rfl⟩ := own_shapeB ho5
        have HO6 := Lib.hid ho5
        have HB6 := Lib.hid (HB5.out.grown hg5 hsz (fun k hk => hlt5 k hk))
        clear ho5 hg5 hlt5 HO5
        go_wp2_with fail
        go_meet
        exact AtI.one HO6.out HB6.out HQ.out
      · have hbz := (Below.refl wc.heap.size wc).alloc (Nat.le_refl _) (.cells #[.string ⟨#[]⟩, .string ⟨#[]⟩, .string ⟨#[114]⟩, .string ⟨#[115]⟩] 9)
        have kz := Blk.new wc [.string ⟨#[]⟩, .string ⟨#[]⟩, .string ⟨#[114]⟩, .string ⟨#[115]⟩] 9
        have z0 := kz.cell 2
        simp only [List.getElem?_cons_succ, List.getElem?_cons_zero] at z0
        have HCz := Lib.hid (show AtI w2 L3 _ _ from ⟨own_keepB HC.out.1 hbz, bthen HC.out.2 hbz⟩)
        have kq := (HKb.out.below (bthen HC.out.2 hbz))
        have c2 := kq.cell 2
        simp only [List.getElem?_cons_succ, List.getElem?_cons_zero] at c2
        clear kz hbz kq
        have hWZ : (wc.alloc (.cells #[.string ⟨#[]⟩, .string ⟨#[]⟩, .string ⟨#[114]⟩, .string ⟨#[115]⟩] 9)).heap.size = wc.heap.size + 1 := by simp
        have HQ := Lib.hid (show I4 = [(sName, [114])] from by rw [← HI4.out, if_pos hcc]; rfl)
        have kw := Blk.new (wc.alloc (.cells #[.string ⟨#[]⟩, .string ⟨#[]⟩, .string ⟨#[114]⟩, .string ⟨#[115]⟩] 9)) (attrC [(sName, [114])]) 85
        rw [hWZ] at kw
        have HWx := Lib.hid (own_at (n := 1) (size := 2) kw rfl (by omega))
        clear kw hWZ
        have hb5 := (Below.refl (wc.alloc (.cells #[.string ⟨#[]⟩, .string ⟨#[]⟩, .string ⟨#[114]⟩, .string ⟨#[115]⟩] 9)).heap.size (wc.alloc (.cells #[.string ⟨#[]⟩, .string ⟨#[]⟩, .string ⟨#[114]⟩, .string ⟨#[115]⟩] 9))).alloc (Nat.le_refl _) (.cells #[.string ⟨#[110, 97, 109, 101]⟩, .string ⟨#[114]⟩] 85)
        have HO5 := Lib.hid (own_keepB HCz.out.1 hb5)
        have hB5 := bthen HCz.out.2 hb5
        have HB5 := Lib.hid hB5
        have hsz := hB5.size
        have hlt5 := fun g hg => (HO5.out.lt g hg).1
        clear hB5 hb5 hcc
        go_wp2_with (at_builtin; refine wpList_append_B etT HO5.out hsz HWx.out (attrC_one _) (by first | omega | (simp only [List.length_nil]; omega)) (by omega) rfl _ _ rfl rfl rfl ?_)
        intro v' w5 ho5 hg5 _
        obtain ⟨va5, vc5, rfl⟩ := own_shapeB ho5
        have HO6 := Lib.hid ho5
        have HB6 := Lib.hid (HB5.out.grown hg5 hsz (fun k hk => hlt5 k hk))
        clear ho5 hg5 hlt5 HO5
        go_wp2_with fail
        go_meet
        exact AtI.one HO6.out HB6.out HQ.out
      · have hbz := (Below.refl wc.heap.size wc).alloc (Nat.le_refl _) (.cells #[.string ⟨#[]⟩, .string ⟨#[]⟩, .string ⟨#[114]⟩, .string ⟨#[115]⟩] 9)
        have kz := Blk.new wc [.string ⟨#[]⟩, .string ⟨#[]⟩, .string ⟨#[114]⟩, .string ⟨#[115]⟩] 9
        have z0 := kz.cell 3
        simp only [List.getElem?_cons_succ, List.getElem?_cons_zero] at z0
        have HCz := Lib.hid (show AtI w2 L3 _ _ from ⟨own_keepB HC.out.1 hbz, bthen HC.out.2 hbz⟩)
        have kq := (HKb.out.below (bthen HC.out.2 hbz))
        have c2 := kq.cell 2
        simp only [List.getElem?_cons_succ, List.getElem?_cons_zero] at c2
        clear kz hbz kq
        have hWZ : (wc.alloc (.cells #[.string ⟨#[]⟩, .string ⟨#[]⟩, .string ⟨#[114]⟩, .string ⟨#[115]⟩] 9)).heap.size = wc.heap.size + 1 := by simp
        have HQ := Lib.hid (show I4 = [(sName, [115])] from by rw [← HI4.out, if_pos hcc]; rfl)
        have kw := Blk.new (wc.alloc (.cells #[.string ⟨#[]⟩, .string ⟨#[]⟩, .string ⟨#[114]⟩, .string ⟨#[115]⟩] 9)) (attrC [(sName, [115])]) 85
        rw [hWZ] at kw
        have HWx := Lib.hid (own_at (n := 1) (size := 2) kw rfl (by omega))
        clear kw hWZ
        have hb5 := (Below.refl (wc.alloc (.cells #[.string ⟨#[]⟩, .string ⟨#[]⟩, .string ⟨#[114]⟩, .string ⟨#[115]⟩] 9)).heap.size (wc.alloc (.cells #[.string ⟨#[]⟩, .string ⟨#[]⟩, .string ⟨#[114]⟩, .string ⟨#[115]⟩] 9))).alloc (Nat.le_refl _) (.cells #[.string ⟨#[110, 97, 109, 101]⟩, .string ⟨#[115]⟩] 85)
        have HO5 := Lib.hid (own_keepB HCz.out.1 hb5)
        have hB5 := bthen HCz.out.2 hb5
        have HB5 := Lib.hid hB5
        have hsz := hB5.size
        have hlt5 := fun g hg => (HO5.out.lt g hg).1
        clear hB5 hb5 hcc
        go_wp2_with (at_builtin; refine wpList_append_B etT HO5.out hsz HWx.out (attrC_one _) (by first | omega | (simp only [List.length_nil]; omega)) (by omega) rfl _ _ rfl rfl rfl ?_)
        intro v' w5 ho5 hg5 _
        obtain ⟨va5, vc5, rfl⟩ := own_shapeB ho5
        have HO6 := Lib.hid ho5
        have HB6 := Lib.hid (HB5.out.grown hg5 hsz (fun k hk => hlt5 k hk))
        clear ho5 hg5 hlt5 HO5
        go_wp2_with fail
        go_meet
        exact AtI.one HO6.out HB6.out HQ.out
  case rest =>
  obtain ⟨L4, hLj⟩ : ∃ L, L3 ++ I4 = L := ⟨_, rfl⟩
  rw [hLj] at hcut
  have HL4 := Lib.hid hLj
  have kl4 : L4.length ≤ 4 := by rw [← hLj, List.length_append]; omega
  clear hLj
  obtain ⟨oa, oc, rfl⟩ := own_shapeB hcut.1
  have HC := Lib.hid hcut
  have kq := HKb.out.below hcut.2
  have c0 := kq.cell 0
  have c2 := kq.cell 2
  have c3 := kq.cell 3
  simp only [List.getElem?_cons_succ, List.getElem?_cons_zero] at c0 c2 c3
  clear kq hcut
  obtain ⟨b5, hbb⟩ : ∃ b : Bool, decide (a2 = 1 ∧ m ≠ 9) = b := ⟨_, rfl⟩
  have HBB := Lib.hid hbb
  clear hbb
  go_upto_region 12 with fail
  go_cut [75] (fun cv wx => cv = .bool b5 ∧ wx = wc)
  case first =>
    by_cases hA : a2 = 1
    · have gA : (decide (0 < a2)) = true := by simp; omega
      by_cases hB : m ≠ 9
      · have gB : ((m : Int) != 9) = true := by simp; omega
        have HR := Lib.hid (decide_eq_true (p := (a2 = 1) ∧ (m ≠ 9)) (And.intro hA hB))
        clear hA hB
        go_wp2_with fail
        go_meet
        exact ⟨by rw [← HBB.out, HR.out], rfl⟩
      · have gB : ((m : Int) != 9) = false := by simp; omega
        have HR := Lib.hid (decide_eq_false (p := (a2 = 1) ∧ (m ≠ 9)) (fun q => hB (And.right q)))
        clear hA hB
        go_wp2_with fail
        go_meet
        exact ⟨by rw [← HBB.out, HR.out], rfl⟩
    · have gA : (decide (0 < a2)) = false := by simp; omega
      have HR := Lib.hid (decide_eq_false (p := (a2 = 1) ∧ (m ≠ 9)) (fun q => hA (And.left q)))
      clear hA
      go_wp2_with fail
      go_meet
      exact ⟨by rw [← HBB.out, HR.out], rfl⟩
  case rest =>
  obtain ⟨rfl, hw⟩ := hcut
  subst hw
  go_upto_if 75 with fail
  go_cut [5] (fun ov wx => AtI w2 (L4 ++ I5) ov wx)
  case first =>
    cases b5 with
    | false =>
      have hcc := of_decide_eq_false HBB.out
      have HQ := Lib.hid (show I5 = [] from by rw [← HI5.out, if_neg hcc])
      clear hcc
      go_wp2_with fail
      go_meet
      exact HC.out.no HQ.out
    | true =>
      have hcc := of_decide_eq_true HBB.out
      have HCz := HC
      have HQ := Lib.hid (show I5 = [(sChecked, [])] from by rw [← HI5.out, if_pos hcc])
      have HWx := Lib.hid (own_at (n := 1) (size := 2) (Blk.new wc (attrC [(sChecked, [])]) 85) rfl (by omega))
      have hb5 := (Below.refl wc.heap.size wc).alloc (Nat.le_refl _) (.cells #[.string ⟨#[99, 104, 101, 99, 107, 101, 100]⟩, .string ⟨#[]⟩] 85)
      have HO5 := Lib.hid (own_keepB HCz.out.1 hb5)
      have hB5 := bthen HCz.out.2 hb5
      have HB5 := Lib.hid hB5
      have hsz := hB5.size
      have hlt5 := fun g hg => (HO5.out.lt g hg).1
      clear hB5 hb5 hcc
      go_wp2_with (at_builtin; refine wpList_append_B etT HO5.out hsz HWx.out (attrC_one _) (by first | omega | (simp only [List.length_nil]; omega)) (by omega) rfl _ _ rfl rfl rfl ?_)
      intro v' w5 ho5 hg5 _
      obtain ⟨va5, vc5, rfl⟩ := own_shapeB ho5
      have HO6 := Lib.hid ho5
      have HB6 := Lib.hid (HB5.out.grown hg5 hsz (fun k hk => hlt5 k hk))
      clear ho5 hg5 hlt5 HO5
      go_wp2_with fail
      go_meet
      exact AtI.one HO6.out HB6.out HQ.out
  case rest =>
  obtain ⟨L5, hLj⟩ : ∃ L, L4 ++ I5 = L := ⟨_, rfl⟩
  rw [hLj] at hcut
  have HL5 := Lib.hid hLj
  have kl5 : L5.length ≤ 5 := by rw [← hLj, List.length_append]; omega
  clear hLj
  obtain ⟨oa, oc, rfl⟩ := own_shapeB hcut.1
  have HC := Lib.hid hcut
  have kq := HKb.out.below hcut.2
  have c0 := kq.cell 0
  have c2 := kq.cell 2
  have c3 := kq.cell 3
  simp only [List.getElem?_cons_succ, List.getElem?_cons_zero] at c0 c2 c3
  clear kq hcut
  obtain ⟨b6, hbb⟩ : ∃ b : Bool, decide (0 < x2 ∧ m ≠ 9) = b := ⟨_, rfl⟩
  have HBB := Lib.hid hbb
  clear hbb
  go_upto_region 14 with fail
  go_cut [89] (fun cv wx => cv = .bool b6 ∧ wx = wc)
  case first =>
    by_cases hA : 0 < x2
    · have gA : (decide (0 < x2)) = true := by simp; omega
      by_cases hB : m ≠ 9
      · have gB : ((m : Int) != 9) = true := by simp; omega
        have HR := Lib.hid (decide_eq_true (p := (0 < x2) ∧ (m ≠ 9)) (And.intro hA hB))
        clear hA hB
        go_wp2_with fail
        go_meet
        exact ⟨by rw [← HBB.out, HR.out], rfl⟩
      · have gB : ((m : Int) != 9) = false := by simp; omega
        have HR := Lib.hid (decide_eq_false (p := (0 < x2) ∧ (m ≠ 9)) (fun q => hB (And.right q)))
        clear hA hB
        go_wp2_with fail
        go_meet
        exact ⟨by rw [← HBB.out, HR.out], rfl⟩
    · have gA : (decide (0 < x2)) = false := by simp; omega
      have HR := Lib.hid (decide_eq_false (p := (0 < x2) ∧ (m ≠ 9)) (fun q => hA (And.left q)))
      clear hA
      go_wp2_with fail
      go_meet
      exact ⟨by rw [← HBB.out, HR.out], rfl⟩
  case rest =>
  obtain ⟨rfl, hw⟩ := hcut
  subst hw
  go_upto_if 89 with fail
  go_cut [5] (fun ov wx => AtI w2 (L5 ++ I6) ov wx)
  case first =>
    cases b6 with
    | false =>
      have hcc := of_decide_eq_false HBB.out
      have HQ := Lib.hid (show I6 = [] from by rw [← HI6.out, if_neg hcc])
      clear hcc
      go_wp2_with fail
      go_meet
      exact HC.out.no HQ.out
    | true =>
      have hcc := of_decide_eq_true HBB.out
      have HCz := HC
      have HQ := Lib.hid (show I6 = [(sDisab, [])] from by rw [← HI6.out, if_pos hcc])
      have HWx := Lib.hid (own_at (n := 1) (size := 2) (Blk.new wc (attrC [(sDisab, [])]) 85) rfl (by omega))
      have hb5 := (Below.refl wc.heap.size wc).alloc (Nat.le_refl _) (.cells #[.string ⟨#[100, 105, 115, 97, 98, 108, 101, 100]⟩, .string ⟨#[]⟩] 85)
      have HO5 := Lib.hid (own_keepB HCz.out.1 hb5)
      have hB5 := bthen HCz.out.2 hb5
      have HB5 := Lib.hid hB5
      have hsz := hB5.size
      have hlt5 := fun g hg => (HO5.out.lt g hg).1
      clear hB5 hb5 hcc
      go_wp2_with (at_builtin; refine wpList_append_B etT HO5.out hsz HWx.out (attrC_one _) (by first | omega | (simp only [List.length_nil]; omega)) (by omega) rfl _ _ rfl rfl rfl ?_)
      intro v' w5 ho5 hg5 _
      obtain ⟨va5, vc5, rfl⟩ := own_shapeB ho5
      have HO6 := Lib.hid ho5
      have HB6 := Lib.hid (HB5.out.grown hg5 hsz (fun k hk => hlt5 k hk))
      clear ho5 hg5 hlt5 HO5
      go_wp2_with fail
      go_meet
      exact AtI.one HO6.out HB6.out HQ.out
  case rest =>
  obtain ⟨L6, hLj⟩ : ∃ L, L5 ++ I6 = L := ⟨_, rfl⟩
  rw [hLj] at hcut
  have HL6 := Lib.hid hLj
  have kl6 : L6.length ≤ 6 := by rw [← hLj, List.length_append]; omega
  clear hLj
  obtain ⟨oa, oc, rfl⟩ := own_shapeB hcut.1
  have HC := Lib.hid hcut
  have kq := HKb.out.below hcut.2
  have c0 := kq.cell 0
  have c2 := kq.cell 2
  have c3 := kq.cell 3
  simp only [List.getElem?_cons_succ, List.getElem?_cons_zero] at c0 c2 c3
  clear kq hcut
  obtain ⟨b7, hbb⟩ : ∃ b : Bool, decide (0 < x4 ∧ m ≠ 9) = b := ⟨_, rfl⟩
  have HBB := Lib.hid hbb
  clear hbb
  go_upto_region 16 with fail
  go_cut [103] (fun cv wx => cv = .bool b7 ∧ wx = wc)
  case first =>
    by_cases hA : 0 < x4
    · have gA : (decide (0 < x4)) = true := by simp; omega
      by_cases hB : m ≠ 9
      · have gB : ((m : Int) != 9) = true := by simp; omega
        have HR := Lib.hid (decide_eq_true (p := (0 < x4) ∧ (m ≠ 9)) (And.intro hA hB))
        clear hA hB
        go_wp2_with fail
        go_meet
        exact ⟨by rw [← HBB.out, HR.out], rfl⟩
      · have gB : ((m : Int) != 9) = false := by simp; omega
        have HR := Lib.hid (decide_eq_false (p := (0 < x4) ∧ (m ≠ 9)) (fun q => hB (And.right q)))
        clear hA hB
        go_wp2_with fail
        go_meet
        exact ⟨by rw [← HBB.out, HR.out], rfl⟩
    · have gA : (decide (0 < x4)) = false := by simp; omega
      have HR := Lib.hid (decide_eq_false (p := (0 < x4) ∧ (m ≠ 9)) (fun q => hA (And.left q)))
      clear hA
      go_wp2_with fail
      go_meet
      exact ⟨by rw [← HBB.out, HR.out], rfl⟩
  case rest =>
  obtain ⟨rfl, hw⟩ := hcut
  subst hw
  go_upto_if 103 with fail
  go_cut [5] (fun ov wx => AtI w2 (L6 ++ I7) ov wx)
  case first =>
    cases b7 with
    | false =>
      have hcc := of_decide_eq_false HBB.out
      have HQ := Lib.hid (show I7 = [] from by rw [← HI7.out, if_neg hcc])
      clear hcc
      go_wp2_with fail
      go_meet
      exact HC.out.no HQ.out
    | true =>
      obtain ⟨vi, hvi, hvq⟩ : ∃ v : UInt8, Utf8.encode (97 + (i : Int) % 26) = ⟨#[v]⟩ ∧ v = (97 + i % 26).toUInt8 := ⟨_, enc_i i, rfl⟩
      have hi7 := HI7.out
      rw [← hvq] at hi7
      have HI7 := Lib.hid hi7
      clear hi7 hvq
      have hmoi := HMoi.out
      have hcc := of_decide_eq_true HBB.out
      have HCz := HC
      have HQ := Lib.hid (show I7 = [(sValue, [vi])] from by rw [← HI7.out, if_pos hcc])
      have HWx := Lib.hid (own_at (n := 1) (size := 2) (Blk.new wc (attrC [(sValue, [vi])]) 85) rfl (by omega))
      have hb5 := (Below.refl wc.heap.size wc).alloc (Nat.le_refl _) (.cells #[.string ⟨#[118, 97, 108, 117, 101]⟩, .string ⟨#[vi]⟩] 85)
      have HO5 := Lib.hid (own_keepB HCz.out.1 hb5)
      have hB5 := bthen HCz.out.2 hb5
      have HB5 := Lib.hid hB5
      have hsz := hB5.size
      have hlt5 := fun g hg => (HO5.out.lt g hg).1
      clear hB5 hb5 hcc
      go_wp2_with (at_builtin; refine wpList_append_B etT HO5.out hsz HWx.out (attrC_one _) (by first | omega | (simp only [List.length_nil]; omega)) (by omega) rfl _ _ rfl rfl rfl ?_)
      intro v' w5 ho5 hg5 _
      obtain ⟨va5, vc5, rfl⟩ := own_shapeB ho5
      have HO6 := Lib.hid ho5
      have HB6 := Lib.hid (HB5.out.grown hg5 hsz (fun k hk => hlt5 k hk))
      clear ho5 hg5 hlt5 HO5
      go_wp2_with fail
      go_meet
      exact AtI.one HO6.out HB6.out HQ.out
  case rest =>
  obtain ⟨L7, hLj⟩ : ∃ L, L6 ++ I7 = L := ⟨_, rfl⟩
  rw [hLj] at hcut
  have HL7 := Lib.hid hLj
  have kl7 : L7.length ≤ 7 := by rw [← hLj, List.length_append]; omega
  clear hLj
  obtain ⟨oa, oc, rfl⟩ := own_shapeB hcut.1
  have HC := Lib.hid hcut
  have kq := HKb.out.below hcut.2
  have c0 := kq.cell 0
  have c2 := kq.cell 2
  have c3 := kq.cell 3
  simp only [List.getElem?_cons_succ, List.getElem?_cons_zero] at c0 c2 c3
  clear kq hcut
  have HC2 := Lib.hid (show AtI w2 AL _ _ from by rw [show AL = L7 from by rw [← HL7.out, ← HL6.out, ← HL5.out, ← HL4.out, ← HL3.out, ← HL2.out, ← HL1.out]; exact HAL.out.symm]; exact HC.out)
  have hall : L7.length = AL.length := by rw [show AL = L7 from by rw [← HL7.out, ← HL6.out, ← HL5.out, ← HL4.out, ← HL3.out, ← HL2.out, ← HL1.out]; exact HAL.out.symm]
  clear hall
  go_wp2_with fail
  go_ret
  exact ⟨_, rfl, own_low HC2.out.1 HB2.out.size, bthen HB2.out HC2.out.2⟩
end Go.Proofs.YtacdbnhnhdlmpaaGreatDoor.W
end
