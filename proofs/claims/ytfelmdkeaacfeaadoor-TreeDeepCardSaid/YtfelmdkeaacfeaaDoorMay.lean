/- The contract of may. -/
import Derived.Test.YtfelmdkeaacfeaaDoorHgt
namespace Go.Proofs.YtfelmdkeaacfeaaDoor.W
open Go.RowKit
set_option linter.unusedVariables false
set_option linter.unusedSimpArgs false

/-- is a child other than c an element -/
def elemB (S : Tr) (c k : Nat) : Bool := k != c && (match S.at k with | some n => n.kind == 2 | none => false)
/-- may c be a child of p -/
def mayB (S : Tr) (K : Nat → List Nat) (d : Nat → Nat) (p c : Nat) (np nc : Nd) : Bool :=
  if nc.kind == 1 || contB S c (d p) (some p) then false
  else if np.kind == 2 || (np.kind == 1 && nc.kind == 4) then true
  else if np.kind != 1 || nc.kind != 2 then false
  else !((K p).any (elemB S c))

theorem own_low {w : World} {B B' e sz n : Nat} {v : Value} {xs : List Value} (h : w.ownsRow B e sz v n xs) (hb : B' ≤ B) : w.ownsRow B' e sz v n xs :=
  ⟨h.1, h.2.imp id fun ⟨g, cap, cur, h1, h2, h3⟩ => ⟨g, cap, cur, h1, Nat.le_trans hb h2, h3⟩⟩
def MyR (w : World) (S : Tr) (l : List Nat) (c : Nat) (v : Value) (jv : Value) (wr : World) : Prop :=
  ∃ j : Nat, j ≤ l.length ∧ jv = .int .i64 (j : Int) ∧ (l.take j).any (elemB S c) = false ∧ wr.ownsRow w.heap.size 3 1 v l.length (hC (l.map S.hd)) ∧ Below w.heap.size w wr

set_option maxRecDepth 100000 in
set_option maxHeartbeats 4000000 in
theorem may_any {B R g cap : Nat} {S : Tr} {fv : Value} {w : World} {K : Nat → List Nat} {d : Nat → Nat} (h : TAt B R S (.slice (some ⟨g, 0, none⟩) S.slots.length cap) fv w) (hL : Lk S K d) (p c : Nat) (np nc : Nd) (hp : S.at p = some np) (hc : S.at c = some nc) :
    Calls Tryd.prog 19 #[.pointer (some ⟨R, 0, none⟩), .int .i64 (S.hd p), .int .i64 (S.hd c)] w fun e w' => e = .returned (.bool (mayB S K d p c np nc)) ∧ Below w.heap.size w w' := by
  have HP := Lib.hid (fun wx (hb : Below w.heap.size w wx) => at_some (h.below hb) (S.hd p) (hd_ok hL hp).1 (hd_ix hL hp))
  have HC := Lib.hid (fun wx (hb : Below w.heap.size w wx) => at_some (h.below hb) (S.hd c) (hd_ok hL hc).1 (hd_ix hL hc))
  have HN := Lib.hid (fun wx (hb : Below w.heap.size w wx) => contains_any (h.below hb) hL c p nc np hc hp)
  have HK := Lib.hid (fun wx (hb : Below w.heap.size w wx) => kids_any (h.below hb) hL p np hp)
  have HT := Lib.hid h
  have kp := fun wx (hb : Below w.heap.size w wx) => nd_cell (h.below hb) hp 0 (by omega)
  have kc := fun wx (hb : Below w.heap.size w wx) => nd_cell (h.below hb) hc 0 (by omega)
  simp only [ndC, List.getElem?_cons_zero, Nat.add_zero] at kp kc
  have HKP := Lib.hid kp
  have HKC := Lib.hid kc
  have HLL := Lib.hid hL
  have hpl := at_lt hp
  have hcl := at_lt hc
  have hkl := kids_len hL p
  have HHC := Lib.hid hc
  clear h kp kc hL hp hc
  have key : ∀ r : Bool, mayB S K d p c np nc = r → Calls Tryd.prog 19 #[.pointer (some ⟨R, 0, none⟩), .int .i64 (S.hd p), .int .i64 (S.hd c)] w (fun e w' => e = .returned (.bool r) ∧ Below w.heap.size w w') →
      Calls Tryd.prog 19 #[.pointer (some ⟨R, 0, none⟩), .int .i64 (S.hd p), .int .i64 (S.hd c)] w fun e w' => e = .returned (.bool (mayB S K d p c np nc)) ∧ Below w.heap.size w w' := fun r h k => by rw [h]; exact k
  unfold mayB at key ⊢
  generalize hkp : np.kind = kp at *
  generalize hkc : nc.kind = kc at *
  generalize hct : contB S c (d p) (some p) = ct at *
  by_cases k1 : kc = 1
  · refine key false (by simp [k1]) ?_
    clear key
    subst k1
    go_enter Tryd.func19, Tryd.ntmps19
    go_wp2_with fail
    refine (HP.out _ (Below.refl _ _)).mono ?_
    rintro e w2 ⟨rfl, hb2⟩
    go_wp2_with fail
    refine (HC.out _ hb2).mono ?_
    rintro e w3 ⟨rfl, hb3⟩
    have hB3 := hb2.trans (hb3.mono hb2.size)
    have c1 := HKC.out _ hB3
    go_wp2_with fail
    all_goals go_ret
    all_goals exact ⟨rfl, hB3⟩
  · have b1 : (kc == 1) = false := by simpa using k1
    cases ct with
    | true =>
      refine key false (by simp) ?_
      clear key
      go_enter Tryd.func19, Tryd.ntmps19
      go_wp2_with fail
      refine (HP.out _ (Below.refl _ _)).mono ?_
      rintro e w2 ⟨rfl, hb2⟩
      go_wp2_with fail
      refine (HC.out _ hb2).mono ?_
      rintro e w3 ⟨rfl, hb3⟩
      have hB3 := hb2.trans (hb3.mono hb2.size)
      have c1 := HKC.out _ hB3
      go_wp2_with fail
      refine (HN.out _ hB3).mono ?_
      rintro e w4 ⟨rfl, hb4⟩
      have hB4 := hB3.trans (hb4.mono hB3.size)
      go_wp2_with fail
      all_goals go_ret
      all_goals exact ⟨rfl, hB4⟩
    | false =>
      simp only [b1, Bool.or_false, Bool.false_eq_true, if_false] at key ⊢
      by_cases p2 : kp = 2
      · refine key true (by simp [p2]) ?_
        subst p2
        clear key
        go_enter Tryd.func19, Tryd.ntmps19
        go_wp2_with fail
        refine (HP.out _ (Below.refl _ _)).mono ?_
        rintro e w2 ⟨rfl, hb2⟩
        go_wp2_with fail
        refine (HC.out _ hb2).mono ?_
        rintro e w3 ⟨rfl, hb3⟩
        have hB3 := hb2.trans (hb3.mono hb2.size)
        have c1 := HKC.out _ hB3
        go_wp2_with fail
        refine (HN.out _ hB3).mono ?_
        rintro e w4 ⟨rfl, hb4⟩
        have hB4 := hB3.trans (hb4.mono hB3.size)
        have c1 := HKC.out _ hB4
        have c2 := HKP.out _ hB4
        go_wp2_with fail
        all_goals go_ret
        all_goals exact ⟨rfl, hB4⟩
      · have b2 : (kp == 2) = false := by simpa using p2
        by_cases p1 : kp = 1
        · subst p1
          by_cases k4 : kc = 4
          · refine key true (by simp [k4]) ?_
            subst k4
            clear key
            go_enter Tryd.func19, Tryd.ntmps19
            go_wp2_with fail
            refine (HP.out _ (Below.refl _ _)).mono ?_
            rintro e w2 ⟨rfl, hb2⟩
            go_wp2_with fail
            refine (HC.out _ hb2).mono ?_
            rintro e w3 ⟨rfl, hb3⟩
            have hB3 := hb2.trans (hb3.mono hb2.size)
            have c1 := HKC.out _ hB3
            go_wp2_with fail
            refine (HN.out _ hB3).mono ?_
            rintro e w4 ⟨rfl, hb4⟩
            have hB4 := hB3.trans (hb4.mono hB3.size)
            have c1 := HKC.out _ hB4
            have c2 := HKP.out _ hB4
            go_wp2_with fail
            all_goals go_ret
            all_goals exact ⟨rfl, hB4⟩
          · have b4 : (kc == 4) = false := by simpa using k4
            by_cases k2 : kc = 2
            · subst k2
              refine key (!((K p).any (elemB S c))) (by simp) ?_
              clear key
              go_enter Tryd.func19, Tryd.ntmps19
              go_wp2_with fail
              refine (HP.out _ (Below.refl _ _)).mono ?_
              rintro e w2 ⟨rfl, hb2⟩
              go_wp2_with fail
              refine (HC.out _ hb2).mono ?_
              rintro e w3 ⟨rfl, hb3⟩
              have hB3 := hb2.trans (hb3.mono hb2.size)
              have c1 := HKC.out _ hB3
              go_wp2_with fail
              refine (HN.out _ hB3).mono ?_
              rintro e w4 ⟨rfl, hb4⟩
              have hB4 := hB3.trans (hb4.mono hB3.size)
              have c1 := HKC.out _ hB4
              have c2 := HKP.out _ hB4
              go_wp2_with fail
              refine (HK.out _ hB4).mono ?_
              rintro e w5 ⟨v, rfl, hown, hb5⟩
              have hB5 := hB4.trans (hb5.mono hB4.size)
              obtain ⟨a, cp, rfl⟩ := own_shapeB hown
              have hown' := own_low hown hB4.size
              clear hown
              go_wp2_with fail
              go_loopw [63] (fun jv wr => MyR w S (K p) c (.slice a (K p).length cp) jv wr) (fun jv _ => (K p).length - (intOf jv).toNat)
              case atStart => exact ⟨0, by omega, rfl, rfl, hown', hB5⟩
              case round =>
                obtain ⟨j, hj, rfl, hall, ho, hB⟩ := hrel
                by_cases hlt : j < (K p).length
                · obtain ⟨k, hk⟩ : ∃ k, (K p)[j]? = some k := ⟨_, List.getElem?_eq_getElem hlt⟩
                  obtain ⟨nk, hnk⟩ := HLL.out.some hk
                  obtain ⟨gv, cp2, hv, hcl2⟩ := own_int ho (x := S.hd k) (by rw [List.getElem?_map, hk]; rfl)
                  have hta : ((K p).take (j + 1)).any (elemB S c) = (((K p).take j).any (elemB S c) || elemB S c k) := by rw [List.take_add_one, hk]; simp
                  rw [hall, Bool.false_or] at hta
                  have hkl2 := at_lt hnk
                  have hfew := HLL.out.few
                  cases hv
                  by_cases hkc2 : k = c
                  · subst hkc2
                    have HE := Lib.hid (hta.trans (show elemB S k k = false by simp [elemB]))
                    have HO := Lib.hid ho
                    clear hta ho hall
                    go_wp2_with fail
                    exact ⟨⟨j + 1, by omega, by go_num, HE.out, HO.out, hB⟩, by simp [intOf]; omega⟩
                  · have hne : ¬ S.hd k = S.hd c := fun e => hkc2 (hdl_inj (by omega) (by omega) e)
                    have hne2 : (S.hd k != S.hd c) = true := by simpa using hne
                    have HK2 := Lib.hid (at_some (HT.out.below hB) (S.hd k) (hd_ok HLL.out hnk).1 (hd_ix HLL.out hnk))
                    have HCK := Lib.hid (fun wx (hb : Below w.heap.size w wx) => nd_cell (HT.out.below hb) hnk 0 (by omega))
                    have he : elemB S c k = (nk.kind == 2) := by unfold elemB; rw [hnk]; simp [hkc2]
                    rw [he] at hta
                    have hmem : elemB S c k = true → (K p).any (elemB S c) = true := fun h => List.any_eq_true.2 ⟨k, List.mem_of_getElem? hk, h⟩
                    rw [he] at hmem
                    obtain ⟨kk, hkk⟩ : ∃ kk, nk.kind = kk := ⟨_, rfl⟩
                    rw [hkk] at hta hmem he
                    have HKK := Lib.hid hkk
                    clear hkk
                    by_cases hk2 : kk = 2
                    · subst hk2
                      have HE := Lib.hid (hmem rfl)
                      have HO := Lib.hid ho
                      clear hta ho hall hmem he
                      go_wp2_with fail
                      refine HK2.out.mono ?_
                      rintro e w6 ⟨rfl, hb6⟩
                      have hB6 := hB.trans (hb6.mono hB.size)
                      have c0 := HCK.out _ hB6
                      simp only [ndC, List.getElem?_cons_zero, Nat.add_zero] at c0
                      rw [HKK.out] at c0
                      go_wp2_with fail
                      all_goals go_ret
                      all_goals exact ⟨by rw [HE.out]; rfl, hB6⟩
                    · have HE := Lib.hid (hta.trans (show (kk == 2) = false by simpa using hk2))
                      have hk2b : (kk == 2) = false := by simpa using hk2
                      have HO := Lib.hid ho
                      clear hta ho hall hmem he
                      go_wp2_with fail
                      refine HK2.out.mono ?_
                      rintro e w6 ⟨rfl, hb6⟩
                      have hB6 := hB.trans (hb6.mono hB.size)
                      have c0 := HCK.out _ hB6
                      simp only [ndC, List.getElem?_cons_zero, Nat.add_zero] at c0
                      rw [HKK.out] at c0
                      go_wp2_with fail
                      exact ⟨⟨j + 1, by omega, by go_num, HE.out, own_keepB HO.out hb6, hB6⟩, by simp [intOf]; omega⟩
                · obtain rfl : j = (K p).length := by omega
                  rw [List.take_length] at hall
                  have HE := Lib.hid hall
                  clear hall ho
                  go_wp2_with fail
                  go_ret
                  exact ⟨by rw [HE.out]; rfl, hB⟩
            · have b5 : (kc == 2) = false := by simpa using k2
              refine key false (by simp only [b4, b5, bne, Bool.and_false, Bool.or_false, Bool.not_false, Bool.or_true, if_true]; rfl) ?_
              clear key
              go_enter Tryd.func19, Tryd.ntmps19
              go_wp2_with fail
              refine (HP.out _ (Below.refl _ _)).mono ?_
              rintro e w2 ⟨rfl, hb2⟩
              go_wp2_with fail
              refine (HC.out _ hb2).mono ?_
              rintro e w3 ⟨rfl, hb3⟩
              have hB3 := hb2.trans (hb3.mono hb2.size)
              have c1 := HKC.out _ hB3
              go_wp2_with fail
              refine (HN.out _ hB3).mono ?_
              rintro e w4 ⟨rfl, hb4⟩
              have hB4 := hB3.trans (hb4.mono hB3.size)
              have c1 := HKC.out _ hB4
              have c2 := HKP.out _ hB4
              go_wp2_with fail
              all_goals go_ret
              all_goals exact ⟨rfl, hB4⟩
        · have b3 : (kp == 1) = false := by simpa using p1
          refine key false (by simp only [b2, b3, bne, Bool.false_and, Bool.or_false, Bool.not_false, Bool.true_or, if_true, Bool.false_eq_true, if_false]) ?_
          clear key
          go_enter Tryd.func19, Tryd.ntmps19
          go_wp2_with fail
          refine (HP.out _ (Below.refl _ _)).mono ?_
          rintro e w2 ⟨rfl, hb2⟩
          go_wp2_with fail
          refine (HC.out _ hb2).mono ?_
          rintro e w3 ⟨rfl, hb3⟩
          have hB3 := hb2.trans (hb3.mono hb2.size)
          have c1 := HKC.out _ hB3
          go_wp2_with fail
          refine (HN.out _ hB3).mono ?_
          rintro e w4 ⟨rfl, hb4⟩
          have hB4 := hB3.trans (hb4.mono hB3.size)
          have c1 := HKC.out _ hB4
          have c2 := HKP.out _ hB4
          go_wp2_with fail
          all_goals go_ret
          all_goals exact ⟨rfl, hB4⟩
end Go.Proofs.YtfelmdkeaacfeaaDoor.W
