/- Next of the reference. -/
import Derived.Test.YtefijebbndnnjaaDoorRefT
import Derived.Test.YtefijebbndnnjaaDoorNumcR
import Derived.BigQuiet
set_option linter.unusedVariables false
set_option linter.unusedSimpArgs false
namespace Go.Proofs.YtefijebbndnnjaaDoor.W
open Go.RowKit

theorem word_is (c : UInt8) (b : Bool) (hb : goesP c = b) (w : World) :
    Calls Tryd.prog 32 #[.int .u8 c.toNat] w fun e w' => e = .returned (.bool b) ∧ w' = w := by
  rw [← hb]; exact word_any c w

set_option maxRecDepth 100000 in
set_option maxHeartbeats 4000000 in
theorem nextR_num (s : ByteArray) (w : World) (hs : s.size ≤ 1000000) (fr : Nat) (base : Int)
    (h : (Lib.hasPrefix s.data.toList [38, 35, 120] = true ∧ fr = 3 ∧ base = 16) ∨ (Lib.hasPrefix s.data.toList [38, 35, 120] = false ∧ Lib.hasPrefix s.data.toList [38, 35, 88] = true ∧ fr = 3 ∧ base = 16) ∨
      (Lib.hasPrefix s.data.toList [38, 35, 120] = false ∧ Lib.hasPrefix s.data.toList [38, 35, 88] = false ∧ Lib.hasPrefix s.data.toList [38, 35] = true ∧ fr = 2 ∧ base = 10)) (hfr : fr ≤ s.size) :
    Calls Tryd.prog 14 #[.string s] w fun e w' => e = .returned (.tuple #[.string ⟨(numericP s.data.toList fr base).1.toArray⟩, .int .i64 (numericP s.data.toList fr base).2]) ∧ Below w.heap.size w w' := by
  rcases h with ⟨h1, rfl, rfl⟩ | ⟨h1, h2, rfl, rfl⟩ | ⟨h1, h2, h3, rfl, rfl⟩
  · have HX := Lib.hid (begins_is s ⟨#[38, 35, 120]⟩ _ true hs (by decide) rfl h1)
    have HN := Lib.hid (numericR_any s 3 16 (Or.inr rfl) w hs hfr)
    clear h1
    go_enter Tryd.func14, Tryd.ntmps14
    go_wp2_with fail
    refine (HX.out _).mono ?_
    rintro e w1 ⟨rfl, rfl⟩
    go_wp2_with fail
    refine HN.out.mono ?_
    rintro e w2 ⟨rfl, hb⟩
    go_wp2_with fail
    go_ret2
    exact ⟨rfl, hb⟩
  · have HX := Lib.hid (begins_is s ⟨#[38, 35, 120]⟩ _ false hs (by decide) rfl h1)
    have HY := Lib.hid (begins_is s ⟨#[38, 35, 88]⟩ _ true hs (by decide) rfl h2)
    have HN := Lib.hid (numericR_any s 3 16 (Or.inr rfl) w hs hfr)
    clear h1 h2
    go_enter Tryd.func14, Tryd.ntmps14
    go_wp2_with fail
    refine (HX.out _).mono ?_
    rintro e w1 ⟨rfl, rfl⟩
    go_wp2_with fail
    refine (HY.out _).mono ?_
    rintro e w1 ⟨rfl, rfl⟩
    go_wp2_with fail
    refine HN.out.mono ?_
    rintro e w2 ⟨rfl, hb⟩
    go_wp2_with fail
    go_ret2
    exact ⟨rfl, hb⟩
  · have HX := Lib.hid (begins_is s ⟨#[38, 35, 120]⟩ _ false hs (by decide) rfl h1)
    have HY := Lib.hid (begins_is s ⟨#[38, 35, 88]⟩ _ false hs (by decide) rfl h2)
    have HZ := Lib.hid (begins_is s ⟨#[38, 35]⟩ _ true hs (by decide) rfl h3)
    have HN := Lib.hid (numericR_any s 2 10 (Or.inl rfl) w hs hfr)
    clear h1 h2 h3
    go_enter Tryd.func14, Tryd.ntmps14
    go_wp2_with fail
    refine (HX.out _).mono ?_
    rintro e w1 ⟨rfl, rfl⟩
    go_wp2_with fail
    refine (HY.out _).mono ?_
    rintro e w1 ⟨rfl, rfl⟩
    go_wp2_with fail
    refine (HZ.out _).mono ?_
    rintro e w1 ⟨rfl, rfl⟩
    go_wp2_with fail
    refine HN.out.mono ?_
    rintro e w2 ⟨rfl, hb⟩
    go_wp2_with fail
    go_ret2
    exact ⟨rfl, hb⟩

theorem sz_semi {x : List UInt8} (h : x.length ≤ 20) : ((⟨#[38]⟩ : ByteArray) ++ ⟨x.toArray⟩ ++ ⟨#[59]⟩).size ≤ 1000000 := by
  rw [Lib.size_eq]; simp; omega
theorem sz_amp {x : List UInt8} (h : x.length ≤ 20) : ((⟨#[38]⟩ : ByteArray) ++ ⟨x.toArray⟩).size ≤ 1000000 := by
  rw [Lib.size_eq]; simp; omega
/-- the loops of the reference's Next -/
def NxR (w : World) (b : Nat) (m : Nat) (q : List UInt8 × List UInt8 → Bool) (iv : Value) (wr : World) : Prop :=
  ∃ i : Nat, i ≤ m ∧ iv = .int .i64 (i : Int) ∧ (tabR.take m).find? q = ((tabR.take m).drop i).find? q ∧ TabAt b wr ∧ Below w.heap.size w wr
theorem find_drop_m {m : Nat} {q : List UInt8 × List UInt8 → Bool} {i : Nat} {x : List UInt8 × List UInt8} (hx : tabR[i]? = some x) (hi : i < m) : ((tabR.take m).drop i).find? q = if q x then some x else ((tabR.take m).drop (i + 1)).find? q := by
  obtain ⟨h1, h2⟩ := List.getElem?_eq_some_iff.1 hx
  have h3 : i < (tabR.take m).length := by rw [List.length_take]; omega
  rw [List.drop_eq_getElem_cons h3, List.getElem_take, h2, List.find?_cons]
  cases q x <;> rfl
/-- the two rules for names -/
def q1 (l : List UInt8) (p : List UInt8 × List UInt8) : Bool := Lib.hasPrefix l (38 :: p.1 ++ [59])
def q2 (l : List UInt8) (p : List UInt8 × List UInt8) : Bool := Lib.hasPrefix l (38 :: p.1) && endsP (l.drop (p.1.length + 1))
theorem nextR_of {l : List UInt8} (h1 : Lib.hasPrefix l [38, 35, 120] = false) (h2 : Lib.hasPrefix l [38, 35, 88] = false) (h3 : Lib.hasPrefix l [38, 35] = false) :
    nextR l = match (tabR.take 30).find? (q1 l) with
      | some p => (p.2, p.1.length + 2)
      | none => match (tabR.take 4).find? (q2 l) with
        | some p => (p.2, p.1.length + 1)
        | none => ([], 0) := by
  unfold nextR; rw [h1, h2, h3]; rfl

set_option maxRecDepth 100000 in
set_option maxHeartbeats 4000000 in
theorem nextR_name (s : ByteArray) (w : World) (hs : s.size ≤ 1000000) (h1 : Lib.hasPrefix s.data.toList [38, 35, 120] = false) (h2 : Lib.hasPrefix s.data.toList [38, 35, 88] = false) (h3 : Lib.hasPrefix s.data.toList [38, 35] = false) :
    Calls Tryd.prog 14 #[.string s] w fun e w' => e = .returned (.tuple #[.string ⟨(nextR s.data.toList).1.toArray⟩, .int .i64 (nextR s.data.toList).2]) ∧ Below w.heap.size w w' := by
  have HE := Lib.hid (nextR_of h1 h2 h3)
  have HX := Lib.hid (begins_is s ⟨#[38, 35, 120]⟩ _ false hs (by decide) rfl h1)
  have HY := Lib.hid (begins_is s ⟨#[38, 35, 88]⟩ _ false hs (by decide) rfl h2)
  have HZ := Lib.hid (begins_is s ⟨#[38, 35]⟩ _ false hs (by decide) rfl h3)
  have HT := Lib.hid (table_any w)
  clear h1 h2 h3
  go_enter Tryd.func14, Tryd.ntmps14
  go_wp2_with fail
  refine (HX.out _).mono ?_
  rintro e wz ⟨rfl, hw⟩
  subst wz
  go_wp2_with fail
  refine (HY.out _).mono ?_
  rintro e wz ⟨rfl, hw⟩
  subst wz
  go_wp2_with fail
  refine (HZ.out _).mono ?_
  rintro e wz ⟨rfl, hw⟩
  subst wz
  go_wp2_with fail
  refine HT.out.mono ?_
  rintro e w1 ⟨rfl, ht, hb1⟩
  clear HX HY HZ HT
  go_wp2_with fail
  go_loopw [5] (fun iv wr => NxR w w.heap.size 30 (q1 s.data.toList) iv wr) (fun iv _ => 30 - (intOf iv).toNat)
  case atStart => exact ⟨0, by omega, rfl, rfl, ht, hb1⟩
  case round =>
    obtain ⟨i, hi, rfl, hf, hT, hB⟩ := hrel
    have HF := Lib.hid hf
    have HB := Lib.hid hT
    clear hf ht
    by_cases hlt : i < 30
    · obtain ⟨x, hx⟩ : ∃ x, tabR[i]? = some x := ⟨_, List.getElem?_eq_getElem (by have e : tabR.length = 30 := rfl; omega)⟩
      have hxl : x.1.length ≤ 20 := by
        have e : ∀ x ∈ tabR, x.1.length ≤ 20 := by decide
        exact e x (List.mem_of_getElem? hx)
      have g0 : wr.cell? ⟨w.heap.size, i * 2, none⟩ = some (.string ⟨x.1.toArray⟩) := by rw [Nat.mul_comm]; exact (hT.cell i x hx).1
      have g1 : wr.cell? ⟨w.heap.size, i * 2 + 1, none⟩ = some (.string ⟨x.2.toArray⟩) := by rw [Nat.mul_comm]; exact (hT.cell i x hx).2
      have hfd := find_drop_m (m := 30) (q := q1 s.data.toList) hx hlt
      clear hx hT
      cases he : q1 s.data.toList x with
      | true =>
        have HN := Lib.hid (HE.out.trans (by rw [HF.out.trans (hfd.trans (if_pos he))]))
        have HC := Lib.hid (begins_is s (⟨#[38]⟩ ++ ⟨x.1.toArray⟩ ++ ⟨#[59]⟩) (38 :: x.1 ++ [59]) true hs (sz_semi hxl) (by simp) he)
        clear hfd he HF
        go_wp2_with fail
        refine (HC.out _).mono ?_
        rintro e wz ⟨rfl, hw⟩
        subst wz
        clear HC
        go_upto_region 10 with fail
        go_quiet (fail)
        all_goals (go_wp2_with fail)
        go_ret2
        exact ⟨by rw [HN.out]; simp, hB.trans (Go.Joins.below_draws _ _ _)⟩
      | false =>
        have HN := Lib.hid (HF.out.trans (hfd.trans (if_neg (by rw [he]; exact Bool.false_ne_true))))
        have HC := Lib.hid (begins_is s (⟨#[38]⟩ ++ ⟨x.1.toArray⟩ ++ ⟨#[59]⟩) (38 :: x.1 ++ [59]) false hs (sz_semi hxl) (by simp) he)
        clear hfd he HF
        go_wp2_with fail
        refine (HC.out _).mono ?_
        rintro e wz ⟨rfl, hw⟩
        subst wz
        clear HC
        go_wp2_with fail
        exact ⟨⟨i + 1, by omega, by go_num, HN.out, HB.out, hB⟩, by simp [intOf]; omega⟩
    · obtain rfl : i = 30 := by omega
      have HQ := Lib.hid (HF.out.trans (show ((tabR.take 30).drop 30).find? (q1 s.data.toList) = none from rfl))
      have hT := HB.out
      have HE2 := Lib.hid (HE.out.trans (by rw [HQ.out]))
      clear HF HB HQ hlt hi HE
      go_wp2_with fail
      go_loopw [6] (fun iv wr => NxR w w.heap.size 4 (q2 s.data.toList) iv wr) (fun iv _ => 4 - (intOf iv).toNat)
      case atStart => exact ⟨0, by omega, rfl, rfl, hT, hB⟩
      case round =>
        obtain ⟨i, hi, rfl, hf, hT, hB⟩ := hrel
        have HF := Lib.hid hf
        have HB := Lib.hid hT
        clear hf
        by_cases hlt : i < 4
        · obtain ⟨x, hx⟩ : ∃ x, tabR[i]? = some x := ⟨_, List.getElem?_eq_getElem (by have e : tabR.length = 30 := rfl; omega)⟩
          have hxl : x.1.length ≤ 20 := by
            have e : ∀ x ∈ tabR, x.1.length ≤ 20 := by decide
            exact e x (List.mem_of_getElem? hx)
          have g0 : wr.cell? ⟨w.heap.size, i * 2, none⟩ = some (.string ⟨x.1.toArray⟩) := by rw [Nat.mul_comm]; exact (hT.cell i x hx).1
          have g1 : wr.cell? ⟨w.heap.size, i * 2 + 1, none⟩ = some (.string ⟨x.2.toArray⟩) := by rw [Nat.mul_comm]; exact (hT.cell i x hx).2
          have hfd := find_drop_m (m := 4) (q := q2 s.data.toList) hx hlt
          have HC := Lib.hid (fun b h => begins_is s (⟨#[38]⟩ ++ ⟨x.1.toArray⟩) (38 :: x.1) b hs (sz_amp hxl) (by simp) h)
          clear hx hT
          cases hp : Lib.hasPrefix s.data.toList (38 :: x.1) with
          | false =>
            have HN := Lib.hid (HF.out.trans (hfd.trans (if_neg (by unfold q2; rw [hp]; exact Bool.false_ne_true))))
            have HD := Lib.hid (HC.out _ hp)
            clear hfd hp HF HC
            go_wp2_with fail
            refine (HD.out _).mono ?_
            rintro e wz ⟨rfl, hw⟩
            subst wz
            clear HD
            go_wp2_with fail
            exact ⟨⟨i + 1, by omega, by go_num, HN.out, HB.out, hB⟩, by simp [intOf]; omega⟩
          | true =>
            have hpl : x.1.length + 1 ≤ s.size := by rw [Lib.size_eq]; exact pre_len hp
            have HD := Lib.hid (HC.out _ hp)
            by_cases hsz : s.size = x.1.length + 1
            · have HN := Lib.hid (HE2.out.trans (by rw [HF.out.trans (hfd.trans (if_pos (by unfold q2; rw [hp, List.drop_eq_nil_of_le (by rw [← Lib.size_eq]; omega)]; rfl)))]))
              clear hfd hp HF HC HE2
              have hsi : (s.size : Int) = (x.1.length : Int) + 1 := by omega
              go_wp2_with fail
              refine (HD.out _).mono ?_
              rintro e wz ⟨rfl, hw⟩
              subst wz
              clear HD
              go_wp2_with fail
              go_ret2
              exact ⟨by rw [HN.out]; simp, hB⟩
            · have hlt2 : x.1.length + 1 < s.size := by omega
              have hsi : ¬ (s.size : Int) = (x.1.length : Int) + 1 := by omega
              have hdr := drop_at s (x.1.length + 1) hlt2
              cases hg : goesP s[x.1.length + 1] with
              | true =>
                have HN := Lib.hid (HF.out.trans (hfd.trans (if_neg (by unfold q2; rw [hp, hdr, endsP_cons, hg]; exact Bool.false_ne_true))))
                have HO := Lib.hid (word_is _ _ hg)
                clear hfd hp HF HC HE2 hdr hg hsz
                go_wp2_with fail
                refine (HD.out _).mono ?_
                rintro e wz ⟨rfl, hw⟩
                subst wz
                clear HD
                go_wp2_with fail
                refine (HO.out _).mono ?_
                rintro e wz ⟨rfl, hw⟩
                subst wz
                clear HO
                go_wp2_with fail
                exact ⟨⟨i + 1, by omega, by go_num, HN.out, HB.out, hB⟩, by simp [intOf]; omega⟩
              | false =>
                have HN := Lib.hid (HE2.out.trans (by rw [HF.out.trans (hfd.trans (if_pos (by unfold q2; rw [hp, hdr, endsP_cons, hg]; rfl)))]))
                have HO := Lib.hid (word_is _ _ hg)
                clear hfd hp HF HC HE2 hdr hg hsz
                go_wp2_with fail
                refine (HD.out _).mono ?_
                rintro e wz ⟨rfl, hw⟩
                subst wz
                clear HD
                go_wp2_with fail
                refine (HO.out _).mono ?_
                rintro e wz ⟨rfl, hw⟩
                subst wz
                clear HO
                go_wp2_with fail
                go_ret2
                exact ⟨by rw [HN.out]; simp, hB⟩
        · obtain rfl : i = 4 := by omega
          have HN := Lib.hid (HE2.out.trans (by rw [HF.out.trans (show ((tabR.take 4).drop 4).find? (q2 s.data.toList) = none from rfl)]))
          clear HF HE2
          go_wp2_with fail
          go_ret2
          exact ⟨by rw [HN.out]; rfl, hB⟩

/-- The contract of the reference's Next. -/
theorem nextR_any (s : ByteArray) (w : World) (hs : s.size ≤ 1000000) :
    Calls Tryd.prog 14 #[.string s] w fun e w' => e = .returned (.tuple #[.string ⟨(nextE s.data.toList).1.toArray⟩, .int .i64 (nextE s.data.toList).2]) ∧ Below w.heap.size w w' := by
  have hlen : ∀ p : List UInt8, Lib.hasPrefix s.data.toList p = true → p.length ≤ s.size := fun p hp => by
    rw [Lib.size_eq]; exact (List.isPrefixOf_iff_prefix.1 hp).length_le
  cases h1 : Lib.hasPrefix s.data.toList [38, 35, 120] with
  | true =>
    rw [show nextE s.data.toList = numericP s.data.toList 3 16 by unfold nextE; rw [h1]; rfl]
    exact nextR_num s w hs 3 16 (Or.inl ⟨h1, rfl, rfl⟩) (hlen _ h1)
  | false =>
    cases h2 : Lib.hasPrefix s.data.toList [38, 35, 88] with
    | true =>
      rw [show nextE s.data.toList = numericP s.data.toList 3 16 by unfold nextE; rw [h1, h2]; rfl]
      exact nextR_num s w hs 3 16 (Or.inr (Or.inl ⟨h1, h2, rfl, rfl⟩)) (hlen _ h2)
    | false =>
      cases h3 : Lib.hasPrefix s.data.toList [38, 35] with
      | true =>
        rw [show nextE s.data.toList = numericP s.data.toList 2 10 by unfold nextE; rw [h1, h2, h3]; rfl]
        exact nextR_num s w hs 2 10 (Or.inr (Or.inr ⟨h1, h2, h3, rfl, rfl⟩)) (hlen _ h3)
      | false =>
        rw [next_eq]
        exact nextR_name s w hs h1 h2 h3
end Go.Proofs.YtefijebbndnnjaaDoor.W
