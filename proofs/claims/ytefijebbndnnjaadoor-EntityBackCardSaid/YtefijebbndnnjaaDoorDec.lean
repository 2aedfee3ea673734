/- The contract of Decode. -/
import Derived.Test.YtefijebbndnnjaaDoorNextN
import Derived.Test.YtefijebbndnnjaaDoorDecP
set_option linter.unusedVariables false
set_option linter.unusedSimpArgs false
namespace Go.Proofs.YtefijebbndnnjaaDoor.W
open Go.RowKit

theorem dec_round {l : List UInt8} {i n : Nat} {c : List UInt8} (h1 : i < l.length) (h2 : l[i]? = some 38) (h3 : dec l = l.take i ++ dec (l.drop i))
    (hc : c = if (nextE (l.drop i)).2 = 0 then [38] else (nextE (l.drop i)).1) (hn : n = if (nextE (l.drop i)).2 = 0 then 1 else (nextE (l.drop i)).2) :
    dec l = l.take i ++ c ++ dec (l.drop (i + n)) ∧ 1 ≤ n ∧ i + n ≤ l.length ∧ c.length ≤ 4 := by
  have hle := nextE_le (l.drop i)
  rw [List.length_drop] at hle
  by_cases h : (nextE (l.drop i)).2 = 0
  · rw [if_pos h] at hc hn
    subst hc hn
    have hd : l.drop i = 38 :: l.drop (i + 1) := by
      rw [List.drop_eq_getElem_cons h1]
      rw [List.getElem?_eq_getElem h1] at h2
      rw [Option.some.inj h2]
    refine ⟨?_, Nat.le_refl _, by omega, by simp⟩
    rw [h3, hd, dec_zero (by rw [← hd]; exact h)]
    simp
  · rw [if_neg h] at hc hn
    subst hc hn
    refine ⟨?_, by omega, by omega, hle.2⟩
    rw [h3, dec_some h, List.drop_drop, List.append_assoc]

theorem byteCells_length (l : List UInt8) : (Lib.byteCells l).length = l.length := by unfold Lib.byteCells; simp
theorem byteCells_app (l : List UInt8) (s : ByteArray) : Lib.byteCells l ++ Lib.strCells s = Lib.byteCells (l ++ s.data.toList) := by
  unfold Lib.byteCells Lib.strCells; simp
theorem index_is (s : ByteArray) (v : Int) (h : Lib.indexByte s.data.toList 38 = v) (w : World) :
    Calls Tryd.prog 33 #[.string s, .int .u8 38] w fun e w' => e = .returned (.int .i64 v) ∧ w' = w := by
  rw [← h]; exact Tryd.strings_IndexByte s 38 w
theorem builder_below {B b : Nat} {p : Value} {bs : List Value} {w w' : World} (h : Lib.BuilderAt 47 5 B b p bs w) (hb : Below w.heap.size w w') : Lib.BuilderAt 47 5 B b p bs w' := by
  have hlt := h.lt
  obtain ⟨hB, v, hbk, hown, hne⟩ := h
  exact ⟨hB, v, (hb.block _ hlt).trans hbk, hown.kept (row := none) ⟨hb.os, hb.tape, hb.output, hb.size, fun k hk _ => hb.block k hk⟩ (by cases e : v.ownBlock with | none => exact Or.inl rfl | some g => exact Or.inr (by simp)), hne⟩
/-- the loop of Decode -/
def DcR (w : World) (l : List UInt8) (sv : Value) (wr : World) : Prop :=
  ∃ (s' : ByteArray) (out : List UInt8), sv = .string s' ∧ s'.size ≤ l.length ∧ out ++ dec s'.data.toList = dec l ∧ out.length + 4 * s'.size ≤ 4 * l.length ∧ Lib.IsBuilder 47 5 w.heap.size w.heap.size (Lib.byteCells out) wr ∧ Below w.heap.size w wr

def strSize : Value → Nat
  | .string s => s.size
  | _ => 0

set_option maxRecDepth 100000 in
set_option maxHeartbeats 4000000 in
theorem decode_any (s : ByteArray) (w : World) (hs : s.size ≤ 1000000) (hL : Laid w) :
    Calls Tryd.prog 15 #[.string s] w fun e w' => e = .returned (.string ⟨(dec s.data.toList).toArray⟩) ∧ Below w.heap.size w w' := by
  have HL := Lib.hid hL
  clear hL
  have hl : s.data.toList.length ≤ 1000000 := by rw [← Lib.size_eq]; exact hs
  go_enter Tryd.func15, Tryd.ntmps15
  go_wp2_with fail
  go_loopw [0] (fun sv wr => DcR w s.data.toList sv wr) (fun sv _ => strSize sv)
  case atStart =>
    exact ⟨s, [], rfl, by rw [← Lib.size_eq]; exact Nat.le_refl _, rfl, by rw [← Lib.size_eq]; simp, Lib.fresh_isBuilder _ _ _, (Below.refl _ _).alloc (Nat.le_refl _) _⟩
  case round =>
    obtain ⟨s', out, rfl, hs1, hdec, hlen, hbld, hB⟩ := hrel
    have hbs := byteCells_length out
    have hBs := hB.size
    rcases dec_index s'.data.toList with ⟨hi, hd⟩ | ⟨i, hi, h1, h2, h3, h4⟩
    · have HI := Lib.hid (index_is s' _ hi)
      have HD := Lib.hid (hdec.symm.trans (congrArg (out ++ ·) hd))
      have HW := Lib.hid (write_any w.heap.size w.heap.size (Lib.byteCells out) s' wr hbld (by omega) hBs)
      clear hi hd hdec hbld
      go_wp2_with fail
      refine (HI.out _).mono ?_
      rintro e w2 ⟨rfl, rfl⟩
      go_wp2_with fail
      refine HW.out.mono ?_
      rintro e w3 ⟨rfl, hb3, hB3⟩
      rw [byteCells_app] at hb3
      have HR := Lib.hid (Tryd.Builder_String_any w.heap.size w.heap.size _ w3 (Or.inr hb3) (by have := hB3.size; omega))
      clear hb3
      go_wp2_with fail
      refine HR.out.mono ?_
      rintro e w4 ⟨rfl, hB4⟩
      go_wp2_with fail
      go_ret
      exact ⟨by rw [HD.out]; rfl, (hB.trans hB3).trans hB4⟩
    · obtain ⟨c, hc⟩ : ∃ c, c = if (nextE (s'.data.toList.drop i)).2 = 0 then [38] else (nextE (s'.data.toList.drop i)).1 := ⟨_, rfl⟩
      obtain ⟨n, hn⟩ : ∃ n, n = if (nextE (s'.data.toList.drop i)).2 = 0 then 1 else (nextE (s'.data.toList.drop i)).2 := ⟨_, rfl⟩
      obtain ⟨hd, hn1, hn2, hc4⟩ := dec_round h1 h2 h4 hc hn
      have his : i < s'.size := by rw [Lib.size_eq]; exact h1
      have hns : i + n ≤ s'.size := by rw [Lib.size_eq]; exact hn2
      have HI := Lib.hid (index_is s' _ hi)
      have e0 : (s'.extract 0 i).data.toList = s'.data.toList.take i := by rw [Lib.extract_data]; rfl
      have e1 : (s'.extract i s'.size).data.toList = s'.data.toList.drop i := by
        rw [Lib.extract_data, List.take_of_length_le]; rw [List.length_drop, ← Lib.size_eq]; exact Nat.le_refl _
      have e2 : (s'.extract (i + n) s'.size).data.toList = s'.data.toList.drop (i + n) := by
        rw [Lib.extract_data, List.take_of_length_le]; rw [List.length_drop, ← Lib.size_eq]; exact Nat.le_refl _
      have z0 : (s'.extract 0 i).size = i := by rw [ByteArray.size_extract]; omega
      have z1 : (s'.extract i s'.size).size ≤ 1000000 := by rw [ByteArray.size_extract]; omega
      have z2 : (s'.extract (i + n) s'.size).size = s'.size - (i + n) := by rw [ByteArray.size_extract]; omega
      have HD := Lib.hid (show (out ++ s'.data.toList.take i ++ c) ++ dec (s'.extract (i + n) s'.size).data.toList = dec s.data.toList by rw [e2, ← hdec, hd]; simp only [List.append_assoc])
      have HW := Lib.hid (write_any w.heap.size w.heap.size (Lib.byteCells out) (s'.extract 0 i) wr hbld (by omega) hBs)
      have HN := Lib.hid (fun wx hx => next_any (s'.extract i s'.size) wx z1 hx)
      rw [e1] at HN
      have HE0 := Lib.hid e0
      have HZ0 := Lib.hid z0
      have HZ2 := Lib.hid z2
      clear hi h1 h2 h3 h4 hd hn2 hdec hbld e0 e1 e2 z0 z1 z2
      generalize nextE (s'.data.toList.drop i) = nx at hc hn HN
      obtain ⟨nc, nn⟩ := nx
      by_cases hz : nn = 0
      · subst hz
        rw [if_pos rfl] at hc hn
        subst hc hn
        go_wp2_with fail
        refine (HI.out _).mono ?_
        rintro e w2 ⟨rfl, rfl⟩
        go_wp2_with fail
        refine HW.out.mono ?_
        rintro e w3 ⟨rfl, hb3, hB3⟩
        go_wp2_with fail
        rw [byteCells_app] at hb3
        have hB13 := hB.trans hB3
        refine (HN.out _ (HL.out.below (hB.trans hB3))).mono ?_
        rintro e w4 ⟨rfl, hB4⟩
        have hB4' := hB4.mono hB13.size
        have hb4 := builder_below hb3 hB4
        have HW5 := Lib.hid (write_any w.heap.size w.heap.size _ ⟨#[38]⟩ w4 (Or.inr hb4) (by rw [byteCells_length, List.length_append, HE0.out, List.length_take]; have e : (⟨#[38]⟩ : ByteArray).size ≤ 4 := (by decide); omega) (Nat.le_trans hB13.size hB4.size))
        clear hb3 hb4
        go_wp2_with fail
        refine HW5.out.mono ?_
        rintro e w5 ⟨rfl, hb5, hB5⟩
        rw [byteCells_app, HE0.out] at hb5
        have HB5 := Lib.hid hb5
        clear hb5
        go_wp2_with fail
        have z := HZ2.out
        have hcl : ([38] : List UInt8).length ≤ 4 := hc4
        refine ⟨⟨_, _, rfl, by omega, HD.out, ?_, Or.inr HB5.out, (hB13.trans hB4').trans hB5⟩, by show (s'.extract (i + 1) s'.size).size < s'.size; omega⟩
        simp only [List.length_append, List.length_take]
        omega
      · rw [if_neg hz] at hc hn
        have hzz : ¬ ((nn : Int) = 0) := by omega
        subst hc hn
        go_wp2_with fail
        refine (HI.out _).mono ?_
        rintro e w2 ⟨rfl, rfl⟩
        go_wp2_with fail
        refine HW.out.mono ?_
        rintro e w3 ⟨rfl, hb3, hB3⟩
        go_wp2_with fail
        rw [byteCells_app] at hb3
        have hB13 := hB.trans hB3
        refine (HN.out _ (HL.out.below (hB.trans hB3))).mono ?_
        rintro e w4 ⟨rfl, hB4⟩
        have hB4' := hB4.mono hB13.size
        have hb4 := builder_below hb3 hB4
        have HW5 := Lib.hid (write_any w.heap.size w.heap.size _ ⟨c.toArray⟩ w4 (Or.inr hb4) (by rw [byteCells_length, List.length_append, HE0.out, List.length_take]; have e : (⟨c.toArray⟩ : ByteArray).size ≤ 4 := hc4; omega) (Nat.le_trans hB13.size hB4.size))
        clear hb3 hb4
        go_wp2_with fail
        refine HW5.out.mono ?_
        rintro e w5 ⟨rfl, hb5, hB5⟩
        rw [byteCells_app, HE0.out] at hb5
        have HB5 := Lib.hid hb5
        clear hb5
        go_wp2_with fail
        have z := HZ2.out
        have hcl : (c).length ≤ 4 := hc4
        refine ⟨⟨_, _, rfl, by omega, HD.out, ?_, Or.inr HB5.out, (hB13.trans hB4').trans hB5⟩, by show (s'.extract (i + n) s'.size).size < s'.size; omega⟩
        simp only [List.length_append, List.length_take]
        omega
end Go.Proofs.YtefijebbndnnjaaDoor.W
