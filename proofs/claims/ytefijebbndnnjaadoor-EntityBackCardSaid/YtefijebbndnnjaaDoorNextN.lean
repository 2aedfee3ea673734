/- The contract of Next: a reference by a name. -/
import Derived.Test.YtefijebbndnnjaaDoorNext
import Derived.Lib.SmallJoins
import Derived.WalkSpells
set_option linter.unusedVariables false
set_option linter.unusedSimpArgs false
namespace Go.Proofs.YtefijebbndnnjaaDoor.W
open Go.RowKit

theorem cut_is (s : ByteArray) (l a b : List UInt8) (ok : Bool) (hl : s.data.toList = l) (hc : Lib.cut l [59] = (a, b, ok)) (hs : s.size ≤ 1000000) (w : World) (hL : Laid w) :
    Calls Tryd.prog 26 #[.string s, .string ⟨#[59]⟩] w fun e w' => e = .returned (.tuple #[.string ⟨a.toArray⟩, .string ⟨b.toArray⟩, .bool ok]) ∧ Below w.heap.size w w' := by
  obtain ⟨m, hm⟩ := hL.maxl
  refine (Tryd.strings_Cut s ⟨#[59]⟩ m w (by omega) hm).mono ?_
  rintro e w' ⟨rfl, n, rfl⟩
  rw [hl]
  exact ⟨by rw [show (⟨#[59]⟩ : ByteArray).data.toList = [59] from rfl, hc], Go.Joins.below_draws _ _ _⟩
theorem lookup_is (n : List UInt8) (v : Option (List UInt8)) (hv : lookP n = v) (w : World) (hL : Laid w) :
    Calls Tryd.prog 18 #[.string ⟨n.toArray⟩] w fun e w' => e = .returned (lookV v) ∧ Below w.heap.size w w' := by
  rw [← hv]
  exact lookup_any ⟨n.toArray⟩ w hL
theorem cutp_is (s : ByteArray) (t n r : List UInt8) (b : Bool) (ht : s.data.toList = t) (hb : Lib.hasPrefix t n = b) (hr : Lib.trimPrefix t n = r) (w : World) :
    Calls Tryd.prog 27 #[.string s, .string ⟨n.toArray⟩] w fun e w' => e = .returned (.tuple #[.string ⟨r.toArray⟩, .bool b]) ∧ w' = w := by
  rw [← hb, ← hr, ← ht]
  exact Tryd.strings_CutPrefix s ⟨n.toArray⟩ w
theorem goes_is (c : UInt8) (b : Bool) (hb : goesP c = b) (w : World) :
    Calls Tryd.prog 28 #[.int .u8 c.toNat] w fun e w' => e = .returned (.bool b) ∧ w' = w := by
  rw [← hb]; exact goes_any c w

/-- the loop over the short names: where it stands -/
def ShR (wl : World) (t : List UInt8) (kv : Value) (wr : World) : Prop :=
  ∃ k : Nat, k ≤ 4 ∧ kv = .int .i64 (k : Int) ∧ shortP t shorts = shortP t (shorts.drop k) ∧ Below wl.heap.size wl wr ∧ ∀ i n, shorts[i]? = some n → wr.cell? ⟨wl.heap.size, i, none⟩ = some (.string ⟨n.toArray⟩)
theorem endsP_cons (d : UInt8) (r : List UInt8) : endsP (d :: r) = !goesP d := rfl
theorem shortP_cons {t n : List UInt8} {r l : List (List UInt8)} (h : l = n :: r) : shortP t l = if Lib.hasPrefix t n && endsP (Lib.trimPrefix t n) then ((lookP n).getD [], n.length + 1) else shortP t r := by rw [h]; rfl

set_option maxRecDepth 100000 in
set_option maxHeartbeats 4000000 in
theorem next_name (s : ByteArray) (w : World) (hs : s.size ≤ 1000000) (h1s : 1 ≤ s.size) (hL : Laid w) (h1 : Lib.hasPrefix s.data.toList [38, 35, 120] = false) (h2 : Lib.hasPrefix s.data.toList [38, 35, 88] = false) (h3 : Lib.hasPrefix s.data.toList [38, 35] = false) (h : Lib.hasPrefix s.data.toList [38] = true) :
    Calls Tryd.prog 13 #[.string s] w fun e w' => e = .returned (.tuple #[.string ⟨((nameP (s.data.toList.drop 1)).getD (shortP (s.data.toList.drop 1) shorts)).1.toArray⟩, .int .i64 ((nameP (s.data.toList.drop 1)).getD (shortP (s.data.toList.drop 1) shorts)).2]) ∧ Below w.heap.size w w' := by
  have HL := Lib.hid hL
  have HX := Lib.hid (prefix_is s ⟨#[38, 35, 120]⟩ false h1)
  have HY := Lib.hid (prefix_is s ⟨#[38, 35, 88]⟩ false h2)
  have HZ := Lib.hid (prefix_is s ⟨#[38, 35]⟩ false h3)
  have HA := Lib.hid (prefix_is s ⟨#[38]⟩ true h)
  have hT : (s.extract 1 s.size).data.toList = s.data.toList.drop 1 := by
    rw [Lib.extract_data, List.take_of_length_le]; rw [List.length_drop, ← Lib.size_eq]; exact Nat.le_refl _
  have hTs : (s.extract 1 s.size).size ≤ 1000000 := by rw [ByteArray.size_extract]; omega
  generalize s.data.toList.drop 1 = t at hT
  clear hL h1 h2 h3 h
  obtain ⟨⟨ca, cb, cok⟩, hcut⟩ : ∃ x, Lib.cut t [59] = x := ⟨_, rfl⟩
  have HC := Lib.hid (cut_is (s.extract 1 s.size) t ca cb cok hT hcut hTs)
  have hcase : (∃ c, cok = true ∧ lookP ca = some c ∧ nameP t = some (c, ca.length + 2)) ∨ (cok = true ∧ lookP ca = none ∧ nameP t = none) ∨ (cok = false ∧ nameP t = none) := by
    unfold nameP
    rw [hcut]
    cases cok with
    | true =>
      cases e : lookP ca with
      | some c => exact Or.inl ⟨c, rfl, rfl, by simp [e]⟩
      | none => exact Or.inr (Or.inl ⟨rfl, rfl, by simp [e]⟩)
    | false => exact Or.inr (Or.inr ⟨rfl, by simp⟩)
  have hca : ca.length ≤ 1000000 := by
    have e : ca = (Lib.cut t [59]).1 := by rw [hcut]
    have h1 : (Lib.cut t [59]).1.length ≤ t.length := by
      unfold Lib.cut
      split
      · simp only [List.length_take]; omega
      · exact Nat.le_refl _
    have h2 : t.length ≤ 1000000 := by rw [← hT, ← Lib.size_eq]; exact hTs
    rw [e]; omega
  have HT := Lib.hid hT
  have HTs := Lib.hid hTs
  clear hcut hT hTs
  rcases hcase with ⟨c, rfl, hlk, hnm⟩ | ⟨rfl, hlk, hnm⟩ | ⟨rfl, hnm⟩
  case' inl =>
    have HK := Lib.hid (lookup_is ca _ hlk)
    clear hlk
    rw [hnm, Option.getD_some]
    clear hnm
    go_enter Tryd.func13, Tryd.ntmps13
    go_wp2_with (first | (go_at_call 24; first | (refine (HX.out _).mono ?_; rintro e w1 ⟨rfl, rfl⟩) | (refine (HY.out _).mono ?_; rintro e w1 ⟨rfl, rfl⟩) | (refine (HZ.out _).mono ?_; rintro e w1 ⟨rfl, rfl⟩) | (refine (HA.out _).mono ?_; rintro e w1 ⟨rfl, rfl⟩)) | fail)
    refine (HC.out _ HL.out).mono ?_
    rintro e w2 ⟨rfl, hb2⟩
    go_wp2_with fail
    refine (HK.out _ (HL.out.below hb2)).mono ?_
    rintro e w3 ⟨rfl, hb3⟩
    unfold lookV
    go_wp2_with fail
    go_ret2
    exact ⟨by simp, hb2.trans (hb3.mono hb2.size)⟩
  case' inr.inl =>
    have HK := Lib.hid (lookup_is ca _ hlk)
    clear hlk
    rw [hnm, Option.getD_none]
    clear hnm
    go_enter Tryd.func13, Tryd.ntmps13
    go_wp2_with (first | (go_at_call 24; first | (refine (HX.out _).mono ?_; rintro e w1 ⟨rfl, rfl⟩) | (refine (HY.out _).mono ?_; rintro e w1 ⟨rfl, rfl⟩) | (refine (HZ.out _).mono ?_; rintro e w1 ⟨rfl, rfl⟩) | (refine (HA.out _).mono ?_; rintro e w1 ⟨rfl, rfl⟩)) | fail)
    refine (HC.out _ HL.out).mono ?_
    rintro e w2 ⟨rfl, hb2⟩
    go_wp2_with fail
    refine (HK.out _ (HL.out.below hb2)).mono ?_
    rintro e w3 ⟨rfl, hb3⟩
    have hbl := hb2.trans (hb3.mono hb2.size)
    have HM := Lib.hid (HL.out.below hbl)
    unfold lookV
    go_wp2_with fail
  case' inr.inr =>
    rw [hnm, Option.getD_none]
    clear hnm
    go_enter Tryd.func13, Tryd.ntmps13
    go_wp2_with (first | (go_at_call 24; first | (refine (HX.out _).mono ?_; rintro e w1 ⟨rfl, rfl⟩) | (refine (HY.out _).mono ?_; rintro e w1 ⟨rfl, rfl⟩) | (refine (HZ.out _).mono ?_; rintro e w1 ⟨rfl, rfl⟩) | (refine (HA.out _).mono ?_; rintro e w1 ⟨rfl, rfl⟩)) | fail)
    refine (HC.out _ HL.out).mono ?_
    rintro e w3 ⟨rfl, hbl⟩
    have HM := Lib.hid (HL.out.below hbl)
    go_wp2_with fail
  all_goals
    clear HX HY HZ HA HC HL
    go_loopw [55] (fun kv wr => ShR w3 t kv wr) (fun kv _ => 4 - (intOf kv).toNat)
    case atStart =>
      refine ⟨0, by omega, rfl, rfl, (Below.refl _ _).alloc (Nat.le_refl _) _, ?_⟩
      intro i n hi
      rw [Go.Joins.cell_alloc_mark_at _ _ _ _ _ _ rfl]
      match i, hi with
      | 0, hi => cases hi; rfl
      | 1, hi => cases hi; rfl
      | 2, hi => cases hi; rfl
      | 3, hi => cases hi; rfl
      | i + 4, hi => cases hi
    case round =>
      obtain ⟨k, hk, rfl, hsh, hB, hcell⟩ := hrel
      have HS := Lib.hid hsh
      clear hsh
      by_cases hlt : k < 4
      · obtain ⟨n, hn⟩ : ∃ n, shorts[k]? = some n := ⟨_, List.getElem?_eq_getElem (by have e : shorts.length = 4 := rfl; omega)⟩
        have hdr : shorts.drop k = n :: shorts.drop (k + 1) := by
          obtain ⟨h1, h2⟩ := List.getElem?_eq_some_iff.1 hn
          rw [List.drop_eq_getElem_cons h1, h2]
        have hnl : n.length ≤ 4 := by
          have e : ∀ n ∈ shorts, n.length ≤ 4 := by decide
          exact e n (List.mem_of_getElem? hn)
        obtain ⟨c, hc⟩ : ∃ c, lookP n = some c := by
          have e : ∀ n ∈ shorts, (lookP n).isSome = true := by decide +kernel
          exact Option.isSome_iff_exists.1 (e n (List.mem_of_getElem? hn))
        have g0 := hcell k n hn
        have HG := Lib.hid hcell
        have HD := Lib.hid (shortP_cons (t := t) hdr)
        have HK := Lib.hid (lookup_is n _ hc)
        have HV := Lib.hid hc
        have hM := Lib.hid (HM.out.below hB)
        clear hn hdr hcell hc
        cases hp : Lib.hasPrefix t n with
        | false =>
          have HN := Lib.hid (HS.out.trans (HD.out.trans (show _ = shortP t (shorts.drop (k + 1)) by rw [hp]; rfl)))
          have HC := Lib.hid (cutp_is _ t n _ false HT.out hp rfl)
          clear hp
          generalize Lib.trimPrefix t n = r at HC
          go_wp2_with fail
          refine (HC.out _).mono ?_
          rintro e w4 ⟨rfl, rfl⟩
          go_wp2_with fail
          exact ⟨⟨k + 1, by omega, by go_num, HN.out, hB, HG.out⟩, by simp [intOf]; omega⟩
        | true =>
          have HC := Lib.hid (cutp_is _ t n _ true HT.out hp rfl)
          rw [hp] at HD
          generalize Lib.trimPrefix t n = r at HC HD
          clear hp
          cases r with
          | nil =>
            have HN := Lib.hid (HS.out.trans (HD.out.trans (show _ = (c, n.length + 1) by rw [HV.out]; rfl)))
            go_wp2_with fail
            refine (HC.out _).mono ?_
            rintro e w4 ⟨rfl, rfl⟩
            go_wp2_with fail
            refine (HK.out _ hM.out).mono ?_
            rintro e w5 ⟨rfl, hb5⟩
            unfold lookV
            go_wp2_with fail
            go_ret2
            exact ⟨by rw [HN.out]; simp, hbl.trans ((hB.mono hbl.size).trans (hb5.mono (hbl.trans (hB.mono hbl.size)).size))⟩
          | cons d r' =>
            cases hg : goesP d with
            | true =>
              have HN := Lib.hid (HS.out.trans (HD.out.trans (show _ = shortP t (shorts.drop (k + 1)) by rw [endsP_cons, hg]; rfl)))
              have HO := Lib.hid (goes_is d _ hg)
              clear hg
              go_wp2_with fail
              refine (HC.out _).mono ?_
              rintro e w4 ⟨rfl, rfl⟩
              go_wp2_with fail
              refine (HO.out _).mono ?_
              rintro e w4 ⟨rfl, rfl⟩
              go_wp2_with fail
              exact ⟨⟨k + 1, by omega, by go_num, HN.out, hB, HG.out⟩, by simp [intOf]; omega⟩
            | false =>
              have HN := Lib.hid (HS.out.trans (HD.out.trans (show _ = (c, n.length + 1) by rw [endsP_cons, hg, HV.out]; rfl)))
              have HO := Lib.hid (goes_is d _ hg)
              clear hg
              go_wp2_with fail
              refine (HC.out _).mono ?_
              rintro e w4 ⟨rfl, rfl⟩
              go_wp2_with fail
              refine (HO.out _).mono ?_
              rintro e w4 ⟨rfl, rfl⟩
              go_wp2_with fail
              refine (HK.out _ hM.out).mono ?_
              rintro e w5 ⟨rfl, hb5⟩
              unfold lookV
              go_wp2_with fail
              go_ret2
              exact ⟨by rw [HN.out]; simp, hbl.trans ((hB.mono hbl.size).trans (hb5.mono (hbl.trans (hB.mono hbl.size)).size))⟩
      · obtain rfl : k = 4 := by omega
        have HN := Lib.hid (HS.out.trans (show shortP t (shorts.drop 4) = ([], 0) from rfl))
        go_wp2_with fail
        go_ret2
        exact ⟨by rw [HN.out]; rfl, hbl.trans (hB.mono hbl.size)⟩

/-- The contract of Next. -/
theorem next_any (s : ByteArray) (w : World) (hs : s.size ≤ 1000000) (hL : Laid w) :
    Calls Tryd.prog 13 #[.string s] w fun e w' => e = .returned (.tuple #[.string ⟨(nextE s.data.toList).1.toArray⟩, .int .i64 (nextE s.data.toList).2]) ∧ Below w.heap.size w w' := by
  have hlen : ∀ p : List UInt8, Lib.hasPrefix s.data.toList p = true → p.length ≤ s.size := fun p hp => by
    rw [Lib.size_eq]; exact (List.isPrefixOf_iff_prefix.1 hp).length_le
  unfold nextE
  cases h1 : Lib.hasPrefix s.data.toList [38, 35, 120] with
  | true => exact next_hex s w hs hL (by rw [h1]; rfl) (hlen _ h1)
  | false =>
    cases h2 : Lib.hasPrefix s.data.toList [38, 35, 88] with
    | true => exact next_hex s w hs hL (by rw [h2]; simp) (hlen _ h2)
    | false =>
      cases h3 : Lib.hasPrefix s.data.toList [38, 35] with
      | true => exact next_dec s w hs hL h1 h2 h3 (hlen _ h3)
      | false =>
        cases h4 : Lib.hasPrefix s.data.toList [38] with
        | true => exact next_name s w hs (hlen _ h4) hL h1 h2 h3 h4
        | false => exact next_no s w h1 h2 h3 h4
end Go.Proofs.YtefijebbndnnjaaDoor.W
