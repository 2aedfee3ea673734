/- Texts joined: May Set LinkP. -/
import Derived.Test.YtacdbnhnhdlmpaaGreatDoorFB3
set_option maxRecDepth 100000
set_option maxHeartbeats 40000000
set_option linter.unusedVariables false
set_option linter.unusedSimpArgs false
section
namespace Go.Proofs.YtacdbnhnhdlmpaaGreatDoor.W
open Go.RowKit
def elemB (S : Tr) (c k : Nat) : Bool := k != c && (match S.at k with | some n => n.kind == 2 | none => false)
def mayB (S : Tr) (K : Nat → List Nat) (d : Nat → Nat) (p c : Nat) (np nc : Nd) : Bool :=
  if nc.kind == 1 || contB S c (d p) (some p) then false
  else if np.kind == 2 || (np.kind == 1 && nc.kind == 4) then true
  else if np.kind != 1 || nc.kind != 2 then false
  else !((K p).any (elemB S c))
theorem own_low {w : World} {B B' e sz n : Nat} {v : Value} {xs : List Value} (h : w.ownsRow B e sz v n xs) (hb : B' ≤ B) : w.ownsRow B' e sz v n xs :=
  ⟨h.1, h.2.imp id fun ⟨g, cap, cur, h1, h2, h3⟩ => ⟨g, cap, cur, h1, Nat.le_trans hb h2, h3⟩⟩
def MyR (w : World) (S : Tr) (l : List Nat) (c : Nat) (v : Value) (jv : Value) (wr : World) : Prop :=
  ∃ j : Nat, j ≤ l.length ∧ jv = .int .i64 (j : Int) ∧ (l.take j).any (elemB S c) = false ∧ wr.ownsRow w.heap.size 3 1 v l.length (hC (l.map S.hd)) ∧ Below w.heap.size w wr
set_option maxRecDepth 100000 in
set_option maxHeartbeats 4000000 in
theorem may_any {B R g cap : Nat} {S : Tr} {fv : Value} {w : World} {K : Nat → List Nat} {d : Nat → Nat} (h : TAt B R S (.slice (some ⟨g, 0, none⟩) S.slots.length cap) fv w) (hL : Lk S K d) (p c : Nat) (np nc : Nd) (hp : S.at p = some np) (hc : S.at c = some nc) :
    Calls Tryz.prog 112 #[.pointer (some ⟨R, 0, none⟩), .int .i64 (S.hd p), .int .i64 (S.hd c)] w fun e w' => e = .returned (.bool (mayB S K d p c np nc)) ∧ Below w.heap.size w w' := by
  have HP := Lib.hid (fun wx (hb : Below w.heap.size w wx) => at_some (h.below hb) (S.hd p) (hd_ok hL hp).1 (hd_ix hL hp))
  have HC := Lib.hid (fun wx (hb : Below w.heap.size w wx) => at_some (h.below hb) (S.hd c) (hd_ok hL hc).1 (hd_ix hL hc))
  have HN := Lib.hid (fun wx (hb : Below w.heap.size w wx) => contains_any (h.below hb) hL c p nc np hc hp)
  have HK := Lib.hid (fun wx (hb : Below w.heap.size w wx) => kids_any (h.below hb) hL p np hp)
  have HT := Lib.hid h
  have kp := fun wx (hb : Below w.heap.size w wx) => nd_cell (h.below hb) hp 0 (by omega)
  have kc := fun wx (hb : Below w.heap.size w wx) => nd_cell (h.below hb) hc 0 (by omega)
  simp only [ndC, List.getElem?_cons_zero, Nat.add_zero] at kp kc
  have HKP := Lib.hid kp
  have HKC := Lib.hid kc
  have HLL := Lib.hid hL
  have hpl := at_lt hp
  have hcl := at_lt hc
  have hkl := kids_len hL p
  have HHC := Lib.hid hc
  clear h kp kc hL hp hc
  have key : ∀ r : Bool, mayB S K d p c np nc = r → Calls Tryz.prog 112 #[.pointer (some ⟨R, 0, none⟩), .int .i64 (S.hd p), .int .i64 (S.hd c)] w (fun e w' => e = .returned (.bool r) ∧ Below w.heap.size w w') →
      Calls Tryz.prog 112 #[.pointer (some ⟨R, 0, none⟩), .int .i64 (S.hd p), .int .i64 (S.hd c)] w fun e w' => e = .returned (.bool (mayB S K d p c np nc)) ∧ Below w.heap.size w w' := fun r h k => by rw [h]; exact k
  unfold mayB at key ⊢
  generalize hkp : np.kind = kp at *
  generalize hkc : nc.kind = kc at *
  generalize hct : contB S c (d p) (some p) = ct at *
  by_cases k1 : kc = 1
  · refine key false (by simp [k1]) ?_
    clear key
    subst k1
    go_enter Tryz.func112, Tryz.ntmps112
    go_wp2_with fail
    refine (HP.out _ (Below.refl _ _)).mono ?_
    rintro e w2 ⟨rfl, hb2⟩
    go_wp2_with fail
    refine (HC.out _ hb2).mono ?_
    rintro e w3 ⟨rfl, hb3⟩
    have hB3 := hb2.trans (hb3.mono hb2.size)
    have c1 := HKC.out _ hB3
    go_wp2_with fail
    all_goals go_ret
    all_goals exact ⟨rfl, hB3⟩
  · have b1 : (kc == 1) = false := by simpa using k1
    cases ct with
    | true =>
      refine key false (by simp) ?_
      clear key
      go_enter Tryz.func112, Tryz.ntmps112
      go_wp2_with fail
      refine (HP.out _ (Below.refl _ _)).mono ?_
      rintro e w2 ⟨rfl, hb2⟩
      go_wp2_with fail
      refine (HC.out _ hb2).mono ?_
      rintro e w3 ⟨rfl, hb3⟩
      have hB3 := hb2.trans (hb3.mono hb2.size)
      have c1 := HKC.out _ hB3
      go_wp2_with fail
      refine (HN.out _ hB3).mono ?_
      rintro e w4 ⟨rfl, hb4⟩
      have hB4 := hB3.trans (hb4.mono hB3.size)
      go_wp2_with fail
      all_goals go_ret
      all_goals exact ⟨rfl, hB4⟩
    | false =>
      simp only [b1, Bool.or_false, Bool.false_eq_true, if_false] at key ⊢
      by_cases p2 : kp = 2
      · refine key true (by simp [p2]) ?_
        subst p2
        clear key
        go_enter Tryz.func112, Tryz.ntmps112
        go_wp2_with fail
        refine (HP.out _ (Below.refl _ _)).mono ?_
        rintro e w2 ⟨rfl, hb2⟩
        go_wp2_with fail
        refine (HC.out _ hb2).mono ?_
        rintro e w3 ⟨rfl, hb3⟩
        have hB3 := hb2.trans (hb3.mono hb2.size)
        have c1 := HKC.out _ hB3
        go_wp2_with fail
        refine (HN.out _ hB3).mono ?_
        rintro e w4 ⟨rfl, hb4⟩
        have hB4 := hB3.trans (hb4.mono hB3.size)
        have c1 := HKC.out _ hB4
        have c2 := HKP.out _ hB4
        go_wp2_with fail
        all_goals go_ret
        all_goals exact ⟨rfl, hB4⟩
      · have b2 : (kp == 2) = false := by simpa using p2
        by_cases p1 : kp = 1
        · subst p1
          by_cases k4 : kc = 4
          · refine key true (by simp [k4]) ?_
            subst k4
            clear key
            go_enter Tryz.func112, Tryz.ntmps112
            go_wp2_with fail
            refine (HP.out _ (Below.refl _ _)).mono ?_
            rintro e w2 ⟨rfl, hb2⟩
            go_wp2_with fail
            refine (HC.out _ hb2).mono ?_
            rintro e w3 ⟨rfl, hb3⟩
            have hB3 := hb2.trans (hb3.mono hb2.size)
            have c1 := HKC.out _ hB3
            go_wp2_with fail
            refine (HN.out _ hB3).mono ?_
            rintro e w4 ⟨rfl, hb4⟩
            have hB4 := hB3.trans (hb4.mono hB3.size)
            have c1 := HKC.out _ hB4
            have c2 := HKP.out _ hB4
            go_wp2_with fail
            all_goals go_ret
            all_goals exact ⟨rfl, hB4⟩
          · have b4 : (kc == 4) = false := by simpa using k4
            by_cases k2 : kc = 2
            · subst k2
              refine key (!((K p).any (elemB S c))) (by simp) ?_
              clear key
              go_enter Tryz.func112, Tryz.ntmps112
              go_wp2_with fail
              refine (HP.out _ (Below.refl _ _)).mono ?_
              rintro e w2 ⟨rfl, hb2⟩
              go_wp2_with fail
              refine (HC.out _ hb2).mono ?_
              rintro e w3 ⟨rfl, hb3⟩
              have hB3 := hb2.trans (hb3.mono hb2.size)
              have c1 := HKC.out _ hB3
              go_wp2_with fail
              refine (HN.out _ hB3).mono ?_
              rintro e w4 ⟨rfl, hb4⟩
              have hB4 := hB3.trans (hb4.mono hB3.size)
              have c1 := HKC.out _ hB4
              have c2 := HKP.out _ hB4
              go_wp2_with fail
              refine (HK.out _ hB4).mono ?_
              rintro e w5 ⟨v, rfl, hown, hb5⟩
              have hB5 := hB4.trans (hb5.mono hB4.size)
              obtain ⟨a, cp, rfl⟩ := own_shapeB hown
              have hown' := own_low hown hB4.size
              clear hown
              go_wp2_with fail
              go_loopw [63] (fun jv wr => MyR w S (K p) c (.slice a (K p).length cp) jv wr) (fun jv _ => (K p).length - (intOf jv).toNat)
              case atStart => exact ⟨0, by omega, rfl, rfl, hown', hB5⟩
              case round =>
                obtain ⟨j, hj, rfl, hall, ho, hB⟩ := hrel
                by_cases hlt : j < (K p).length
                · obtain ⟨k, hk⟩ : ∃ k, (K p)[j]? = some k := ⟨_, List.getElem?_eq_getElem hlt⟩
                  obtain ⟨nk, hnk⟩ := HLL.out.some hk
                  obtain ⟨gv, cp2, hv, hcl2⟩ := own_int ho (x := S.hd k) (by rw [List.getElem?_map, hk]; rfl)
                  have hta : ((K p).take (j + 1)).any (elemB S c) = (((K p).take j).any (elemB S c) || elemB S c k) := by rw [List.take_add_one, hk]; simp
                  rw [hall, Bool.false_or] at hta
                  have hkl2 := at_lt hnk
                  have hfew := HLL.out.few
                  cases hv
                  by_cases hkc2 : k = c
                  · subst hkc2
                    have HE := Lib.hid (hta.trans (show elemB S k k = false by simp [elemB]))
                    have HO := Lib.hid ho
                    clear hta ho hall
                    go_wp2_with fail
                    exact ⟨⟨j + 1, by omega, by go_num, HE.out, HO.out, hB⟩, by simp [intOf]; omega⟩
                  · have hne : ¬ S.hd k = S.hd c := fun e => hkc2 (hdl_inj (by omega) (by omega) e)
                    have hne2 : (S.hd k != S.hd c) = true := by simpa using hne
                    have HK2 := Lib.hid (at_some (HT.out.below hB) (S.hd k) (hd_ok HLL.out hnk).1 (hd_ix HLL.out hnk))
                    have HCK := Lib.hid (fun wx (hb : Below w.heap.size w wx) => nd_cell (HT.out.below hb) hnk 0 (by omega))
                    have he : elemB S c k = (nk.kind == 2) := by unfold elemB; rw [hnk]; simp [hkc2]
                    rw [he] at hta
                    have hmem : elemB S c k = true → (K p).any (elemB S c) = true := fun h => List.any_eq_true.2 ⟨k, List.mem_of_getElem? hk, h⟩
                    rw [he] at hmem
                    obtain ⟨kk, hkk⟩ : ∃ kk, nk.kind = kk := ⟨_, rfl⟩
                    rw [hkk] at hta hmem he
                    have HKK := Lib.hid hkk
                    clear hkk
                    by_cases hk2 : kk = 2
                    · subst hk2
                      have HE := Lib.hid (hmem rfl)
                      have HO := Lib.hid ho
                      clear hta ho hall hmem he
                      go_wp2_with fail
                      refine HK2.out.mono ?_
                      rintro e w6 ⟨rfl, hb6⟩
                      have hB6 := hB.trans (hb6.mono hB.size)
                      have c0 := HCK.out _ hB6
                      simp only [ndC, List.getElem?_cons_zero, Nat.add_zero] at c0
                      rw [HKK.out] at c0
                      go_wp2_with fail
                      all_goals go_ret
                      all_goals exact ⟨by rw [HE.out]; rfl, hB6⟩
                    · have HE := Lib.hid (hta.trans (show (kk == 2) = false by simpa using hk2))
                      have hk2b : (kk == 2) = false := by simpa using hk2
                      have HO := Lib.hid ho
                      clear hta ho hall hmem he
                      go_wp2_with fail
                      refine HK2.out.mono ?_
                      rintro e w6 ⟨rfl, hb6⟩
                      have hB6 := hB.trans (hb6.mono hB.size)
                      have c0 := HCK.out _ hB6
                      simp only [ndC, List.getElem?_cons_zero, Nat.add_zero] at c0
                      rw [HKK.out] at c0
                      go_wp2_with fail
                      exact ⟨⟨j + 1, by omega, by go_num, HE.out, own_keepB HO.out hb6, hB6⟩, by simp [intOf]; omega⟩
                · obtain rfl : j = (K p).length := by omega
                  rw [List.take_length] at hall
                  have HE := Lib.hid hall
                  clear hall ho
                  go_wp2_with fail
                  go_ret
                  exact ⟨by rw [HE.out]; rfl, hB⟩
            · have b5 : (kc == 2) = false := by simpa using k2
              refine key false (by simp only [b4, b5, bne, Bool.and_false, Bool.or_false, Bool.not_false, Bool.or_true, if_true]; rfl) ?_
              clear key
              go_enter Tryz.func112, Tryz.ntmps112
              go_wp2_with fail
              refine (HP.out _ (Below.refl _ _)).mono ?_
              rintro e w2 ⟨rfl, hb2⟩
              go_wp2_with fail
              refine (HC.out _ hb2).mono ?_
              rintro e w3 ⟨rfl, hb3⟩
              have hB3 := hb2.trans (hb3.mono hb2.size)
              have c1 := HKC.out _ hB3
              go_wp2_with fail
              refine (HN.out _ hB3).mono ?_
              rintro e w4 ⟨rfl, hb4⟩
              have hB4 := hB3.trans (hb4.mono hB3.size)
              have c1 := HKC.out _ hB4
              have c2 := HKP.out _ hB4
              go_wp2_with fail
              all_goals go_ret
              all_goals exact ⟨rfl, hB4⟩
        · have b3 : (kp == 1) = false := by simpa using p1
          refine key false (by simp only [b2, b3, bne, Bool.false_and, Bool.or_false, Bool.not_false, Bool.true_or, if_true, Bool.false_eq_true, if_false]) ?_
          clear key
          go_enter Tryz.func112, Tryz.ntmps112
          go_wp2_with fail
          refine (HP.out _ (Below.refl _ _)).mono ?_
          rintro e w2 ⟨rfl, hb2⟩
          go_wp2_with fail
          refine (HC.out _ hb2).mono ?_
          rintro e w3 ⟨rfl, hb3⟩
          have hB3 := hb2.trans (hb3.mono hb2.size)
          have c1 := HKC.out _ hB3
          go_wp2_with fail
          refine (HN.out _ hB3).mono ?_
          rintro e w4 ⟨rfl, hb4⟩
          have hB4 := hB3.trans (hb4.mono hB3.size)
          have c1 := HKC.out _ hB4
          have c2 := HKP.out _ hB4
          go_wp2_with fail
          all_goals go_ret
          all_goals exact ⟨rfl, hB4⟩
theorem own_setB {w : World} {B e size g n cap : Nat} {xs : List Value} (h : w.ownsRow B e size (.slice (some ⟨g, 0, none⟩) n cap) n xs) (j : Nat) (u : Value) : (w.setCell ⟨g, j, none⟩ u).ownsRow B e size (.slice (some ⟨g, 0, none⟩) n cap) n (xs.set j u) := by
  have hB := (h.lt g rfl).1
  have h0 := own_set (own_low h (Nat.zero_le B)) j u
  refine ⟨h0.1, ?_⟩
  rcases h0.2 with ⟨e, _⟩ | ⟨g', cap', cur, e, _, rest⟩
  · cases e
  · cases e
    exact .inr ⟨g, cap, cur, rfl, hB, rest⟩
def Tr.put (S : Tr) (i : Nat) (n : Nd) : Tr := { S with slots := S.slots.set i (some n) }
theorem live_put {S : Tr} {i : Nat} {n n' : Nd} (h : S.at i = some n) : (S.put i n').live = S.live := by
  have hs := at_slot h
  unfold Tr.live Tr.put
  simp only []
  generalize S.slots = l at hs ⊢
  clear h
  induction l generalizing i with
  | nil => simp at hs
  | cons x l ih =>
    cases i with
    | zero => simp at hs; subst hs; simp
    | succ i =>
      have := ih (by simpa using hs : l[i]? = some (some n))
      simp only [List.set_cons_succ, List.filter_cons]
      split <;> simp [this]
theorem blk_ne {w : World} {g h : Nat} {cs cs' : Array Value} {t t' : TypeId} {f f' : Nat × Nat} (h1 : w.heap[g]? = some (.cells cs t f)) (h2 : w.heap[h]? = some (.cells cs' t' f')) (ht : t ≠ t') : g ≠ h := by
  rintro rfl
  rw [h1] at h2
  simp only [Option.some.injEq, Obj.cells.injEq] at h2
  exact ht h2.2.1
theorem TAt.setF {B R g cap : Nat} {S : Tr} {fv : Value} {w : World} (h : TAt B R S (.slice (some ⟨g, 0, none⟩) S.slots.length cap) fv w) {i : Nat} {n n' : Nd} (hi : S.at i = some n) (j : Nat) (u : Value) (hj : j < 9)
    (hn : ndC n' = (ndC n).set j u) (hav : n'.av = n.av) (hat : n'.attrs = n.attrs) :
    TAt B R (S.put i n') (.slice (some ⟨g, 0, none⟩) (S.put i n').slots.length cap) fv (w.setCell ⟨g, i * 10 + 1 + j, none⟩ u) := by
  have hlt := at_lt hi
  have hlen : (S.put i n').slots.length = S.slots.length := by unfold Tr.put; simp
  obtain ⟨cur, hg⟩ : ∃ cur, w.heap[g]? = some (.cells cur 182 (0, 0)) := by
    rcases h.slots.2 with ⟨e, _⟩ | ⟨g', cap', cur, e, _, hh, _⟩
    · cases e
    · cases e; exact ⟨cur, hh⟩
  have other : ∀ {k : Nat} {cs : Array Value} {t : TypeId}, w.heap[k]? = some (.cells cs t (0, 0)) → 182 ≠ t → (w.setCell ⟨g, i * 10 + 1 + j, none⟩ u).heap[k]? = w.heap[k]? := fun hk ht => Below.heap_setCell _ _ _ _ (fun e => blk_ne hg hk ht e.symm)
  rw [hlen]
  refine ⟨?_, ?_, ?_, ?_, h.base, by rw [hlen]; exact h.few⟩
  · have := h.blk.kept (other h.blk (by decide))
    rw [live_put hi]
    exact this
  · rw [hlen]
    have := own_setB h.slots (i * 10 + 1 + j) u
    have e : rowC (S.put i n').slots = (rowC S.slots).set (i * 10 + 1 + j) u := by
      have := rowC_set S.slots i (some n') hlt (1 + j) u (by omega) (some n) (at_slot hi) (by
        show Value.bool true :: ndC n' = (Value.bool true :: ndC n).set (1 + j) u
        rw [hn, Nat.add_comm 1 j]; rfl)
      rw [← Nat.add_assoc] at this
      exact this
    rw [e]
    exact this
  · obtain ⟨h1, h2⟩ := h.free
    refine ⟨h1, h2.imp id fun ⟨g', cap', cur', e1, e2, e3, rest⟩ => ⟨g', cap', cur', e1, e2, (other e3 (by decide)).trans e3, rest⟩⟩
  · intro k m hk
    have hcase : (k = i ∧ m = n') ∨ S.slots[k]? = some (some m) := by
      unfold Tr.put at hk
      simp only [] at hk
      by_cases e : i = k
      · subst e
        rw [List.getElem?_set_self hlt] at hk
        left; exact ⟨rfl, by simpa using hk.symm⟩
      · rw [List.getElem?_set_ne e] at hk
        right; exact hk
    have hold : AttrAt B w m.av m.attrs := by
      rcases hcase with ⟨rfl, rfl⟩ | hk
      · rw [hav, hat]; exact h.attrs k n (at_slot hi)
      · exact h.attrs k m hk
    obtain ⟨a, cp, e, hx⟩ := hold
    exact ⟨a, cp, e, hx.imp id fun ⟨g', cur', e1, e2, e3, e4⟩ => ⟨g', cur', e1, e2, (other e3 (by decide)).trans e3, e4⟩⟩
theorem at_put {S : Tr} {i : Nat} {n n' : Nd} (hi : S.at i = some n) (k : Nat) : (S.put i n').at k = if k = i then some n' else S.at k := by
  have hlt := at_lt hi
  unfold Tr.at Tr.put
  simp only []
  rw [List.getElem?_set]
  by_cases e : i = k
  · subst e; simp [hlt]
  · rw [if_neg e, if_neg (fun h => e h.symm)]
end Go.Proofs.YtacdbnhnhdlmpaaGreatDoor.W
end
section
namespace Go.Proofs.YtacdbnhnhdlmpaaGreatDoor.W
def linkN (S : Tr) (l : List Nat) (p j c x : Nat) (n : Nd) : Nd :=
  { n with
    parent := if x = c then S.hd p else n.parent
    prev := if x = c then hO S (pv l j) else if l[j]? = some x then S.hd c else n.prev
    next := if x = c then hO S l[j]? else if pv l j = some x then S.hd c else n.next
    first := if x = p ∧ j = 0 then S.hd c else n.first
    last := if x = p ∧ j = l.length then S.hd c else n.last }
def linkK (K : Nat → List Nat) (p j c : Nat) (q : Nat) : List Nat := if q = p then (K p).take j ++ c :: (K p).drop j else K q
theorem ins_at (l : List Nat) (j c i : Nat) (hj : j ≤ l.length) : (l.take j ++ c :: l.drop j)[i]? = if i < j then l[i]? else if i = j then some c else l[i - 1]? := by
  by_cases h1 : i < j
  · rw [if_pos h1, List.getElem?_append_left (by rw [List.length_take]; omega), List.getElem?_take, if_pos h1]
  · rw [if_neg h1, List.getElem?_append_right (by rw [List.length_take]; omega), List.length_take, Nat.min_eq_left hj]
    by_cases h2 : i = j
    · rw [if_pos h2, h2, Nat.sub_self]; rfl
    · rw [if_neg h2, show i - j = (i - 1 - j) + 1 by omega, List.getElem?_cons_succ, List.getElem?_drop]
      congr 1; omega
theorem Lk.one_par {S K d} (h : Lk S K d) {p q x : Nat} (hp : x ∈ K p) (hq : x ∈ K q) : p = q := by
  obtain ⟨n, hn⟩ := Option.isSome_iff_exists.1 (h.kin p x hp).2
  obtain ⟨np, hnp⟩ := Option.isSome_iff_exists.1 (h.kin p x hp).1
  obtain ⟨nq, hnq⟩ := Option.isSome_iff_exists.1 (h.kin q x hq).1
  obtain ⟨i, hi⟩ := List.mem_iff_getElem?.1 hp
  obtain ⟨j, hj⟩ := List.mem_iff_getElem?.1 hq
  have h1 := (h.kid p i x n hi hn).1
  have h2 := (h.kid q j x n hj hn).1
  have := h.few
  have a := at_lt hnp
  have b := at_lt hnq
  exact hdl_inj (by omega) (by omega) (h1.symm.trans h2)
set_option maxHeartbeats 1000000 in
theorem Lk.link {S S' : Tr} {K : Nat → List Nat} {d d' : Nat → Nat} (h : Lk S K d) {p j c : Nat} {np nc : Nd} (hp : S.at p = Option.some np) (hc : S.at c = Option.some nc) (hj : j ≤ (K p).length)
    (hdet : ∀ q, c ∉ K q) (hpc : p ≠ c)
    (hat : ∀ x, S'.at x = (S.at x).map (linkN S (K p) p j c x)) (hlen : S'.slots.length = S.slots.length) (hhd : ∀ x, S'.hd x = S.hd x)
    (hd1 : d' c = d p + 1) (hd2 : ∀ q k, k ∈ K q → d' k = d' q + 1) (hd3 : d' p = d p) (hd4 : ∀ x, d' x ≤ 128) (hd5 : ∀ x, (S.at x).isSome = true → x ≠ c → (∀ q, x ∉ K q) → d' x = 1) : Lk S' (linkK K p j c) d' := by
  have hO' : ∀ o, hO S' o = hO S o := fun o => by cases o with | none => rfl | some x => exact hhd x
  have hsome : ∀ x, (S'.at x).isSome = (S.at x).isSome := fun x => by rw [hat]; cases S.at x <;> rfl
  have hmem : ∀ q k, k ∈ linkK K p j c q ↔ (k ∈ K q ∨ (q = p ∧ k = c)) := by
    intro q k
    unfold linkK
    by_cases e : q = p
    · subst e
      rw [if_pos rfl, List.mem_append, List.mem_cons]
      constructor
      · rintro (h | rfl | h)
        · exact .inl (List.mem_of_mem_take h)
        · exact .inr ⟨rfl, rfl⟩
        · exact .inl (List.mem_of_mem_drop h)
      · rintro (h | ⟨_, rfl⟩)
        · rw [← List.take_append_drop j (K q), List.mem_append] at h
          rcases h with h | h
          · exact .inl h
          · exact .inr (.inr h)
        · exact .inr (.inl rfl)
    · rw [if_neg e]
      simp [e]
  have hcK : ∀ (i : Nat), (K p)[i]? ≠ Option.some c := fun i e => hdet p (List.mem_of_getElem? e)
  refine ⟨?_, ?_, ?_, ?_, ?_, ?_, ?_, hd4, by rw [hlen]; exact h.few⟩
  · intro q k hk
    rw [hsome, hsome]
    rcases (hmem q k).1 hk with hk | ⟨rfl, rfl⟩
    · exact h.kin q k hk
    · exact ⟨by rw [hp]; rfl, by rw [hc]; rfl⟩
  · intro x n' hx
    rw [hat] at hx
    obtain ⟨n, hn, rfl⟩ := Option.map_eq_some_iff.1 hx
    obtain ⟨h1, h2⟩ := h.node x n hn
    rw [hO', hO']
    unfold linkN linkK
    simp only []
    by_cases e : x = p
    · subst e
      rw [if_pos rfl, ins_at _ _ _ _ hj]
      constructor
      · by_cases j0 : j = 0
        · subst j0; simp [hO]
        · rw [if_neg (fun h => j0 h.2), if_pos (by omega)]; exact h1
      · rw [List.getLast?_append]
        by_cases jl : j = (K x).length
        · subst jl; simp [hO]
        · rw [if_neg (fun h => jl h.2), h2]
          have hdn : (K x).drop j ≠ [] := fun e => by
            have := congrArg List.length e
            rw [List.length_drop] at this
            simp at this; omega
          rw [List.getLast?_cons, List.getLast?_drop, if_neg (by omega)]
          cases e2 : (K x).getLast? with
          | none => rw [List.getLast?_eq_none_iff] at e2; rw [e2] at hdn; simp at hdn
          | some y => simp
    · rw [if_neg e, if_neg (fun h => e h.1), if_neg (fun h => e h.1)]
      exact ⟨h1, h2⟩
  · intro q i k n' hk hx
    rw [hat] at hx
    obtain ⟨n, hn, rfl⟩ := Option.map_eq_some_iff.1 hx
    rw [hO', hO', hhd]
    unfold linkK at hk ⊢
    by_cases e : q = p
    · subst e
      rw [if_pos rfl] at hk ⊢
      rw [ins_at _ _ _ _ hj] at hk
      rw [ins_at _ _ _ _ hj, ins_at _ _ _ _ hj]
      have hinj : ∀ {i i' : Nat} {x : Nat}, (K q)[i]? = Option.some x → (K q)[i']? = Option.some x → i' = i := fun {i i' x} e1 e2 => by
        have hl' := (List.getElem?_eq_some_iff.1 e2).1
        exact (List.getElem?_inj hl' (h.nodup q)).1 (e2.trans e1.symm)
      unfold linkN
      simp only []
      by_cases i1 : i < j
      · rw [if_pos i1] at hk
        obtain ⟨a1, a2, a3⟩ := h.kid q i k n hk hn
        have hkc : k ≠ c := fun e => hcK i (e ▸ hk)
        rw [if_neg hkc, if_neg hkc, if_neg hkc]
        refine ⟨a1, ?_, ?_⟩
        · rw [if_neg (fun e' => by have := hinj hk e'; omega), a2]
          by_cases i0 : i = 0
          · rw [if_pos i0, if_pos i0]
          · rw [if_neg i0, if_neg i0, if_pos (by omega)]
        · by_cases ij : i + 1 = j
          · rw [if_pos (by unfold pv; rw [if_neg (by omega), show j - 1 = i by omega]; exact hk), if_neg (by omega), if_pos ij]; rfl
          · rw [if_neg (fun e' => by
              unfold pv at e'
              split at e'
              · cases e'
              · have := hinj hk e'; omega), a3, if_pos (by omega)]
      · rw [if_neg i1] at hk
        by_cases i2 : i = j
        · subst i2
          rw [if_pos rfl] at hk
          cases hk
          rw [if_pos rfl, if_pos rfl, if_pos rfl]
          refine ⟨rfl, ?_, ?_⟩
          · unfold pv
            by_cases i0 : i = 0
            · rw [if_pos i0, if_pos i0]
            · rw [if_neg i0, if_neg i0, if_pos (by omega)]
          · rw [if_neg (by omega), if_neg (by omega), Nat.add_sub_cancel]
        · rw [if_neg i2] at hk
          obtain ⟨a1, a2, a3⟩ := h.kid q (i - 1) k n hk hn
          have hkc : k ≠ c := fun e => hcK _ (e ▸ hk)
          rw [if_neg hkc, if_neg hkc, if_neg hkc]
          refine ⟨a1, ?_, ?_⟩
          · rw [if_neg (by omega : ¬ i = 0)]
            by_cases ij : i - 1 = j
            · rw [if_pos (by rw [← ij]; exact hk), if_neg (by omega), if_pos ij]; rfl
            · rw [if_neg (fun e' => by have := hinj hk e'; omega), a2, if_neg (by omega), if_neg (by omega), if_neg ij]
          · rw [if_neg (fun e' => by
              unfold pv at e'
              split at e'
              · cases e'
              · have := hinj hk e'; omega), a3, if_neg (by omega), if_neg (by omega), show i + 1 - 1 = i - 1 + 1 by omega]
    · rw [if_neg e] at hk ⊢
      obtain ⟨a1, a2, a3⟩ := h.kid q i k n hk hn
      have hkc : k ≠ c := fun e' => hdet q (e' ▸ List.mem_of_getElem? hk)
      have hnp : ∀ i', (K p)[i']? ≠ Option.some k := fun i' e' => e (h.one_par (List.mem_of_getElem? hk) (List.mem_of_getElem? e'))
      unfold linkN
      simp only []
      rw [if_neg hkc, if_neg hkc, if_neg hkc, if_neg (hnp j), if_neg (c := pv (K p) j = Option.some k) (fun e' => by
        unfold pv at e'
        split at e'
        · cases e'
        · exact hnp _ e')]
      exact ⟨a1, a2, a3⟩
  · intro x n' hx hx2
    rw [hat] at hx
    obtain ⟨n, hn, rfl⟩ := Option.map_eq_some_iff.1 hx
    have hxc : x ≠ c := fun e => hx2 p ((hmem p x).2 (.inr ⟨rfl, e⟩))
    have hxK : ∀ q, x ∉ K q := fun q hq => hx2 q ((hmem q x).2 (.inl hq))
    obtain ⟨a1, a2, a3⟩ := h.top x n hn hxK
    unfold linkN
    simp only []
    rw [if_neg hxc, if_neg hxc, if_neg hxc, if_neg (fun e' => hxK p (List.mem_of_getElem? e')), if_neg (fun e' => by
      unfold pv at e'
      split at e'
      · cases e'
      · exact hxK p (List.mem_of_getElem? e'))]
    exact ⟨a1, a2, a3⟩
  · intro q
    unfold linkK
    by_cases e : q = p
    · rw [if_pos e]
      have hnd := h.nodup p
      rw [← List.take_append_drop j (K p), List.nodup_append] at hnd
      rw [List.nodup_append]
      refine ⟨hnd.1, ?_, ?_⟩
      · rw [List.nodup_cons]
        exact ⟨fun hh => hdet p (List.mem_of_mem_drop hh), hnd.2.1⟩
      · intro a ha b hb
        rw [List.mem_cons] at hb
        rcases hb with rfl | hb
        · rintro rfl; exact hdet p (List.mem_of_mem_take ha)
        · exact hnd.2.2 a ha b hb
    · rw [if_neg e]; exact h.nodup q
  · intro q k hk
    rcases (hmem q k).1 hk with hk | ⟨rfl, rfl⟩
    · exact hd2 q k hk
    · rw [hd1, hd3]
  · intro x hx hxK
    rw [hsome] at hx
    exact hd5 x hx (fun e => hxK p ((hmem p x).2 (.inr ⟨rfl, e⟩))) (fun q hq => hxK q ((hmem q x).2 (.inl hq)))
structure Linked (S S' : Tr) (l : List Nat) (p j c : Nat) : Prop where
  at_ : ∀ x, S'.at x = (S.at x).map (linkN S l p j c x)
  len : S'.slots.length = S.slots.length
  b : S'.b = S.b
  s : S'.s = S.s
  free : S'.free = S.free
  root : S'.root = S.root
theorem Linked.hd {S S' : Tr} {l : List Nat} {p j c : Nat} (h : Linked S S' l p j c) (x : Nat) : S'.hd x = S.hd x := by unfold Tr.hd; rw [h.b, h.s]
end Go.Proofs.YtacdbnhnhdlmpaaGreatDoor.W
end
