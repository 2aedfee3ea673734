/- Texts joined: Elem AttrC SetA Sel. -/
import Derived.Test.YtfdofkokiaapoaaGreatDoorGv8
import Derived.Test.YtfdofkokiaapoaaGreatDoorGv7
import Derived.WalkSpells
import Derived.Test.YtfdofkokiaapoaaGreatDoorGv5
import Derived.Test.YtfdofkokiaapoaaGreatDoorGv4
section
/- The contracts of elementName at one-letter names, of attrs and the searches at no attributes, and of formed. -/
namespace Go.Proofs.YtfdofkokiaapoaaGreatDoor.W
open Go.RowKit
set_option linter.unusedVariables false
set_option linter.unusedSimpArgs false

theorem ascii_of {l : List UInt8} (h : l.all (fun b => decide (b.toNat < 128)) = true) : ∀ (j : Nat) (b : UInt8), l[j]? = some b → b.toNat < 128 := fun j b hj => by
  have := List.all_eq_true.1 h b (List.mem_of_getElem? hj)
  simpa using this
theorem lower_one (c : UInt8) (hc : Ltr c) (w : World) : Calls Tryz.prog 79 #[.string ⟨#[c]⟩] w fun e w' => e = .returned (.bool true) ∧ Below w.heap.size w w' := by
  have HV := Lib.hid (textValid_one c hc w)
  have HL := Lib.hid (lower_bytes ⟨#[c]⟩ (by show 1 ≤ _; omega) w)
  have hl : (List.map lowB (⟨#[c]⟩ : ByteArray).data.toList).toArray = #[c] := by rcases hc with rfl | rfl | rfl <;> rfl
  rw [hl] at HL
  clear hl hc
  go_enter Tryz.func79, Tryz.ntmps79
  go_wp2_with fail
  refine HV.out.mono ?_
  rintro e w' ⟨rfl, hw⟩
  subst hw
  go_wp2_with fail
  refine HL.out.mono ?_
  rintro e w2 ⟨rfl, hb⟩
  go_wp2_with fail
  go_ret
  exact ⟨rfl, hb⟩

set_option maxRecDepth 100000 in
theorem elementName_98 (w : World) : Calls Tryz.prog 50 #[.string ⟨#[98]⟩] w fun e w' => e = .returned (.bool true) ∧ Below w.heap.size w w' := by
  have HV := Lib.hid (lower_one 98 (by unfold Ltr; decide) w)
  have HC := Lib.hid (fun w => Tryz.strings_ContainsAny_laid ⟨#[98]⟩ ⟨#[9, 10, 12, 13, 32, 47, 62]⟩ w (by decide) (by decide) (ascii_of (by decide)) (ascii_of (by decide)))
  have hl : Lib.containsAny (⟨#[98]⟩ : ByteArray).data.toList (⟨#[9, 10, 12, 13, 32, 47, 62]⟩ : ByteArray).data.toList = false := by rfl
  simp only [hl] at HC
  clear hl
  go_enter Tryz.func50, Tryz.ntmps50
  go_wp2_with fail
  refine HV.out.mono ?_
  rintro e w1 ⟨rfl, hb1⟩
  go_wp2_with fail
  refine (HC.out _).mono ?_
  rintro e w2 ⟨rfl, hb2⟩
  go_wp2_with fail
  go_ret
  exact ⟨rfl, bthen hb1 hb2⟩

set_option maxRecDepth 100000 in
theorem elementName_105 (w : World) : Calls Tryz.prog 50 #[.string ⟨#[105]⟩] w fun e w' => e = .returned (.bool true) ∧ Below w.heap.size w w' := by
  have HV := Lib.hid (lower_one 105 (by unfold Ltr; decide) w)
  have HC := Lib.hid (fun w => Tryz.strings_ContainsAny_laid ⟨#[105]⟩ ⟨#[9, 10, 12, 13, 32, 47, 62]⟩ w (by decide) (by decide) (ascii_of (by decide)) (ascii_of (by decide)))
  have hl : Lib.containsAny (⟨#[105]⟩ : ByteArray).data.toList (⟨#[9, 10, 12, 13, 32, 47, 62]⟩ : ByteArray).data.toList = false := by rfl
  simp only [hl] at HC
  clear hl
  go_enter Tryz.func50, Tryz.ntmps50
  go_wp2_with fail
  refine HV.out.mono ?_
  rintro e w1 ⟨rfl, hb1⟩
  go_wp2_with fail
  refine (HC.out _).mono ?_
  rintro e w2 ⟨rfl, hb2⟩
  go_wp2_with fail
  go_ret
  exact ⟨rfl, bthen hb1 hb2⟩

set_option maxRecDepth 100000 in
theorem elementName_112 (w : World) : Calls Tryz.prog 50 #[.string ⟨#[112]⟩] w fun e w' => e = .returned (.bool true) ∧ Below w.heap.size w w' := by
  have HV := Lib.hid (lower_one 112 (by unfold Ltr; decide) w)
  have HC := Lib.hid (fun w => Tryz.strings_ContainsAny_laid ⟨#[112]⟩ ⟨#[9, 10, 12, 13, 32, 47, 62]⟩ w (by decide) (by decide) (ascii_of (by decide)) (ascii_of (by decide)))
  have hl : Lib.containsAny (⟨#[112]⟩ : ByteArray).data.toList (⟨#[9, 10, 12, 13, 32, 47, 62]⟩ : ByteArray).data.toList = false := by rfl
  simp only [hl] at HC
  clear hl
  go_enter Tryz.func50, Tryz.ntmps50
  go_wp2_with fail
  refine HV.out.mono ?_
  rintro e w1 ⟨rfl, hb1⟩
  go_wp2_with fail
  refine (HC.out _).mono ?_
  rintro e w2 ⟨rfl, hb2⟩
  go_wp2_with fail
  go_ret
  exact ⟨rfl, bthen hb1 hb2⟩

theorem elementName_one (c : UInt8) (hc : Ltr c) (w : World) : Calls Tryz.prog 50 #[.string ⟨#[c]⟩] w fun e w' => e = .returned (.bool true) ∧ Below w.heap.size w w' := by
  rcases hc with rfl | rfl | rfl
  · exact elementName_98 w
  · exact elementName_105 w
  · exact elementName_112 w
set_option maxRecDepth 100000 in
theorem attrs_nil (w : World) : Calls Tryz.prog 51 #[.slice none 0 0] w fun e w' => e = .returned (.bool true) ∧ Below w.heap.size w w' := by
  have hmm := @run_makeMap Tryz.prog
  go_enter Tryz.func51, Tryz.ntmps51
  go_wp2_with fail
  go_loopw [9] (fun iv wr => iv = .int .i64 0 ∧ Below w.heap.size w wr) (fun _ _ => 0)
  case atStart => exact ⟨rfl, (Below.refl _ _).alloc (Nat.le_refl _) _⟩
  case round =>
    obtain ⟨rfl, hB⟩ := hrel
    go_wp2_with fail
    go_ret
    exact ⟨rfl, hB⟩
theorem long_any (s : ByteArray) (hs : s.size ≤ 9000000000000000000) (w : World) : Calls Tryz.prog 54 #[.string s] w fun e w' => e = .returned (.bool (decide (1048576 < s.size))) ∧ w' = w := by
  by_cases h : 1048576 < s.size
  · have d1 : decide ((1048576 : Int) < (s.size : Int)) = true := by simp; omega
    go_enter Tryz.func54, Tryz.ntmps54
    go_wp2_with fail
    rw [decide_eq_true h]
    go_ret
    exact ⟨rfl, rfl⟩
  · have d1 : decide ((1048576 : Int) < (s.size : Int)) = false := by simp; omega
    go_enter Tryz.func54, Tryz.ntmps54
    go_wp2_with fail
    rw [decide_eq_false h]
    go_ret
    exact ⟨rfl, rfl⟩
set_option maxRecDepth 100000 in
theorem indexFunc_nil (f : Value) (w : World) : Calls Tryz.prog 84 #[.slice none 0 0, f] w fun e w' => e = .returned (.int .i64 (-1)) ∧ w' = w := by
  go_enter Tryz.func84, Tryz.ntmps84
  go_wp2_with fail
  go_loopw [8] (fun iv wr => iv = .int .i64 0 ∧ wr = w) (fun _ _ => 0)
  case atStart => exact ⟨rfl, rfl⟩
  case round =>
    obtain ⟨rfl, rfl⟩ := hrel
    go_wp2_with fail
    go_ret
    exact ⟨rfl, rfl⟩
theorem containsFunc_nil (f : Value) (w : World) : Calls Tryz.prog 55 #[.slice none 0 0, f] w fun e w' => e = .returned (.bool false) ∧ w' = w := by
  have H := Lib.hid (indexFunc_nil f w)
  go_enter Tryz.func55, Tryz.ntmps55
  go_wp2_with fail
  refine H.out.mono ?_
  rintro e w' ⟨rfl, hw⟩
  subst hw
  go_wp2_with fail
  go_ret
  exact ⟨rfl, rfl⟩
end Go.Proofs.YtfdofkokiaapoaaGreatDoor.W
end
section
/- Attributes: a copy of them (slices.Clone), names that are known (attrName). -/
namespace Go.Proofs.YtfdofkokiaapoaaGreatDoor.W
open Go.RowKit
set_option linter.unusedVariables false
set_option linter.unusedSimpArgs false

abbrev Atr := List UInt8 × List UInt8
def atC (p : Atr) : List Value := [strV p.1, strV p.2]
def attrC (l : List Atr) : List Value := l.flatMap atC
theorem attrC_len (l : List Atr) : (attrC l).length = l.length * 2 := by
  induction l with
  | nil => rfl
  | cons x l ih => rw [attrC, List.flatMap_cons, List.length_append, List.length_cons]; unfold attrC at ih; rw [ih]; show 2 + _ = _; omega
theorem attrC_at (l : List Atr) (i : Nat) (p : Atr) (h : l[i]? = some p) : (attrC l)[2 * i]? = some (strV p.1) ∧ (attrC l)[2 * i + 1]? = some (strV p.2) := by
  induction l generalizing i with
  | nil => simp at h
  | cons y l ih =>
    rw [attrC, List.flatMap_cons]
    cases i with
    | zero => simp at h; subst h; exact ⟨rfl, rfl⟩
    | succ i =>
      obtain ⟨h1, h2⟩ := ih i (by simpa using h)
      constructor
      · rw [List.getElem?_append_right (by show 2 ≤ _; omega)]
        show (attrC l)[2 * (i + 1) - 2]? = _
        rw [show 2 * (i + 1) - 2 = 2 * i by omega]; exact h1
      · rw [List.getElem?_append_right (by show 2 ≤ _; omega)]
        show (attrC l)[2 * (i + 1) + 1 - 2]? = _
        rw [show 2 * (i + 1) + 1 - 2 = 2 * i + 1 by omega]; exact h2
theorem attrC_one (l : List Atr) : ∀ u ∈ attrC l, u.oneCell' = true := by
  intro u hu
  unfold attrC at hu
  rw [List.mem_flatMap] at hu
  obtain ⟨p, _, hp⟩ := hu
  simp only [atC, List.mem_cons, List.not_mem_nil, or_false] at hp
  rcases hp with rfl | rfl <;> rfl
theorem attrC_snoc (l : List Atr) (p : Atr) : attrC (l ++ [p]) = attrC l ++ atC p := by unfold attrC; simp

theorem attr_cells {B : Nat} {w : World} {g n cap : Nat} {l : List Atr} (h : AttrAt B w (.slice (some ⟨g, 0, none⟩) n cap) l) : ∀ j u, (attrC l)[j]? = some u → w.cell? ((⟨g, 0, none⟩ : Addr).add j) = some u := by
  intro j u hu
  have hj : j < l.length * 2 := by rw [← attrC_len]; exact (List.getElem?_eq_some_iff.1 hu).1
  obtain ⟨a, c, e, h'⟩ := h
  rcases h' with rfl | ⟨g', cur, rfl, _, hh, hc⟩
  · simp at hj
  · simp only [Value.slice.injEq, Option.some.injEq, Addr.mk.injEq] at e
    obtain ⟨⟨rfl, _⟩, _, _⟩ := e
    rw [Go.WideShapes.add_plain, Lib.cell_of_heap hh, Nat.zero_add]
    obtain ⟨p, hp⟩ : ∃ p, l[j / 2]? = some p := ⟨_, List.getElem?_eq_getElem (by omega)⟩
    have h1 := attrC_at l (j / 2) p hp
    have h2 := hc (j / 2) p hp
    rcases Nat.mod_two_eq_zero_or_one j with e | e
    · rw [show 2 * (j / 2) = j by omega] at h1 h2
      rw [h1.1] at hu
      rw [h2.1, hu]
    · rw [show 2 * (j / 2) + 1 = j by omega] at h1 h2
      rw [h1.2] at hu
      rw [h2.2, hu]
theorem attr_of_own {B B' : Nat} {w : World} {v : Value} {l : List Atr} (h : w.ownsRow B' 118 2 v l.length (attrC l)) (hB : B ≤ B') : AttrAt B w v l := by
  rcases h.2 with ⟨rfl, e⟩ | ⟨g, cap, cur, rfl, hg, hh, hc1, hc2, hc3, ht⟩
  · exact ⟨none, 0, by rw [e], .inl (List.length_eq_zero_iff.1 e)⟩
  · refine ⟨_, _, rfl, .inr ⟨g, cur, rfl, by omega, hh, fun i p hp => ?_⟩⟩
    obtain ⟨h1, h2⟩ := attrC_at l i p hp
    have hi := (List.getElem?_eq_some_iff.1 hp).1
    have hget : ∀ j, j < l.length * 2 → cur[j]? = (attrC l)[j]? := fun j hj => by
      rw [← ht, List.getElem?_take, if_pos hj, Array.getElem?_toList]
    exact ⟨by rw [hget _ (by omega)]; exact h1, by rw [hget _ (by omega)]; exact h2⟩

theorem infoA : (Tryz.prog.info? 118).map (fun i => (i.zero, i.size, i.bytes)) = some (some (.agg #[.string ⟨#[]⟩, .string ⟨#[]⟩]), 2, 32) := by kernel_rfl

set_option maxRecDepth 100000 in
set_option maxHeartbeats 2000000 in
theorem clone_attr {B : Nat} {w : World} {v : Value} {l : List Atr} (h : AttrAt B w v l) (hl : l.length ≤ 1000) :
    Calls Tryz.prog 70 #[v] w fun e w' => ∃ v', e = .returned v' ∧ w'.ownsRow w.heap.size 118 2 v' l.length (attrC l) ∧ Below w.heap.size w w' := by
  obtain ⟨i0, hi0, hz0, hz1, hz2⟩ := info_parts infoA
  have hq := fun w a n c n' c' => Lib.run_eql_slice_nil (P := Tryz.prog) w 111 118 a n c n' c' Tryz.underlying111
  have h0 := h
  obtain ⟨a, c, rfl, h'⟩ := h
  cases a with
  | none =>
    have hx : l = [] := by
      rcases h' with h' | ⟨g', cur, e, _⟩
      · exact h'
      · cases e
    subst hx
    clear h0 h'
    go_enter Tryz.func70, Tryz.ntmps70
    go_wp2_with fail
    go_ret
    exact ⟨_, rfl, World.ownsRow_nil _ _ _ _, Below.refl _ _⟩
  | some a =>
    have hA := (All.start w).newSlA w.heap.size rfl 118 2 0 [] rfl (by omega)
    have hcell : ∀ j u, (attrC l)[j]? = some u → (w.alloc (.cells ([] : List Value).toArray 118)).cell? (a.add j) = some u := fun j u hu => by
      rcases h' with rfl | ⟨g', cur, e, _⟩
      · simp [attrC] at hu
      · cases e
        exact cell_keep ((Below.refl _ w).alloc (Nat.le_refl _) _) (attr_cells h0 j u hu)
    have HC := Lib.hid hcell
    have HO := Lib.hid (show (w.alloc (.cells ([] : List Value).toArray 118)).ownsRow w.heap.size 118 2 (.slice (some ⟨w.heap.size, 0, none⟩) 0 0) 0 [] from by
      have : Own _ _ _ _ _ _ := hA.head
      obtain ⟨h1, h2⟩ := this
      refine ⟨h1, ?_⟩
      rcases h2 with ⟨e, _⟩ | ⟨g', cap, cur, e, _, rest⟩
      · cases e
      · cases e; exact .inr ⟨w.heap.size, _, cur, rfl, Nat.le_refl _, rest⟩)
    have H1 := Lib.hid (attrC_one l)
    have HL := Lib.hid (attrC_len l)
    generalize attrC l = ys at *
    clear h0 h' hA hcell
    go_enter Tryz.func70, Tryz.ntmps70
    go_wp2_with (at_builtin; refine wpList_append_own _ rfl _ _ 111 rfl w.heap.size 118 i0 _ 2 32 Tryz.underlying111 hi0 hz0 hz1 hz2 rfl (by decide) _ 0 _ rfl HO.out _ l.length _ ys rfl HL.out HC.out H1.out ?c1 ?c2 ?c3 ?_)
    case c1 => unfold maxLen; omega
    case c2 => omega
    case c3 => simp
    intro v' w5 hown5 hgr5 _
    have HW := Lib.hid hown5
    have HB := Lib.hid (show Below w.heap.size w w5 from ((Below.refl _ w).alloc (Nat.le_refl _) _).grown hgr5 (by simp) (fun k hk => by cases hk; exact Nat.le_refl _))
    clear hown5 hgr5
    go_wp2_with fail
    go_ret
    exact ⟨_, rfl, by simpa using HW.out, HB.out⟩

theorem textValid_any (l : List UInt8) (w : World) (hs : l.length ≤ 100000000) (hT : Laid w) (hv : Lib.validD l = true) : Calls Tryz.prog 92 #[.string ⟨l.toArray⟩] w fun e w' => e = .returned (.bool true) ∧ Below w.heap.size w w' := by
  have H := Lib.hid (valid_any ⟨l.toArray⟩ w (by show l.toArray.size ≤ _; simp; omega) hT)
  simp only [hv] at H
  go_enter Tryz.func92, Tryz.ntmps92
  go_wp2_with fail
  refine H.out.mono ?_
  rintro e w' ⟨rfl, hb⟩
  go_wp2_with fail
  go_ret
  exact ⟨rfl, hb⟩
theorem lower_ok (l : List UInt8) (w : World) (hs : l.length ≤ 100000000) (hT : Laid w) (hv : Lib.validD l = true) (hlow : l.map lowB = l) : Calls Tryz.prog 79 #[.string ⟨l.toArray⟩] w fun e w' => e = .returned (.bool true) ∧ Below w.heap.size w w' := by
  have HV := Lib.hid (textValid_any l w hs hT hv)
  have HL := Lib.hid (fun wx => lower_bytes ⟨l.toArray⟩ (by show l.toArray.size ≤ _; simp; omega) wx)
  simp only [hlow] at HL
  clear hT hv hlow
  go_enter Tryz.func79, Tryz.ntmps79
  go_wp2_with fail
  refine HV.out.mono ?_
  rintro e w' ⟨rfl, hb1⟩
  go_wp2_with fail
  refine (HL.out _).mono ?_
  rintro e w2 ⟨rfl, hb⟩
  go_wp2_with fail
  go_ret
  exact ⟨by simp, bthen hb1 hb⟩
/-- a name of an attribute, as these statements use it -/
structure AName (l : List UInt8) : Prop where
  pos : l ≠ []
  len : l.length ≤ 1000
  asc : l.all (fun b => decide (b.toNat < 128)) = true
  val : Lib.validD l = true
  low : l.map lowB = l
  any : Lib.containsAny l [9, 10, 12, 13, 32, 47, 62] = false
  eq : Lib.indexByte (l.drop 1) 61 = -1
set_option maxRecDepth 100000 in
set_option maxHeartbeats 2000000 in
theorem attrName_ok (l : List UInt8) (h : AName l) (w : World) (hT : Laid w) : Calls Tryz.prog 68 #[.string ⟨l.toArray⟩] w fun e w' => e = .returned (.bool true) ∧ Below w.heap.size w w' := by
  have hsz : (⟨l.toArray⟩ : ByteArray).size = l.length := by show l.toArray.size = _; simp
  have hl1 := h.len
  have hl0 : 1 ≤ l.length := by have := h.pos; cases l with | nil => exact absurd rfl this | cons a t => simp
  have HV := Lib.hid (lower_ok l w (by omega) hT h.val h.low)
  have HC := Lib.hid (fun w => Tryz.strings_ContainsAny_laid ⟨l.toArray⟩ ⟨#[9, 10, 12, 13, 32, 47, 62]⟩ w (by rw [hsz]; omega) (by decide) (ascii_of h.asc) (ascii_of (by decide)))
  have e1 : Lib.containsAny (⟨l.toArray⟩ : ByteArray).data.toList (⟨#[9, 10, 12, 13, 32, 47, 62]⟩ : ByteArray).data.toList = false := h.any
  simp only [e1] at HC
  have hx : (⟨l.toArray⟩ : ByteArray).extract 1 l.length = ⟨(l.drop 1).toArray⟩ := by
    apply ByteArray.ext
    apply Array.toList_inj.1
    have := Lib.extract_to_end ⟨l.toArray⟩ 1
    rw [hsz] at this
    exact this
  have HI := Lib.hid (fun w => Tryz.strings_IndexByte ⟨(l.drop 1).toArray⟩ 61 w)
  have e2 : Lib.indexByte (⟨(l.drop 1).toArray⟩ : ByteArray).data.toList (61 : Int).toNat.toUInt8 = -1 := h.eq
  simp only [e2] at HI
  have hne : ((⟨l.toArray⟩ : ByteArray).toList == (⟨#[]⟩ : ByteArray).toList) = false := by
    rw [show (⟨#[]⟩ : ByteArray) = ⟨([] : List UInt8).toArray⟩ from rfl, str_eq]
    exact decide_eq_false h.pos
  have hne3 : ((⟨l.toArray⟩ : ByteArray).toList == []) = false := by rw [ByteArray.toList_mk]; simpa using h.pos
  have hne4 : (⟨l.toArray⟩ : ByteArray).toList ≠ [] := by rw [ByteArray.toList_mk]; exact h.pos
  generalize hs : (⟨l.toArray⟩ : ByteArray) = s at *
  clear h hT e1 e2 hs
  generalize (⟨(l.drop 1).toArray⟩ : ByteArray) = s1 at *
  go_enter Tryz.func68, Tryz.ntmps68
  go_wp2_with fail
  refine HV.out.mono ?_
  rintro e w1 ⟨rfl, hb1⟩
  go_wp2_with fail
  refine (HC.out _).mono ?_
  rintro e w2 ⟨rfl, hb2⟩
  go_wp2_with fail
  refine (HI.out _).mono ?_
  rintro e w3 ⟨rfl, hw⟩
  rw [hw]
  go_wp2_with fail
  go_ret
  exact ⟨rfl, bthen hb1 hb2⟩
theorem name_class : AName [99, 108, 97, 115, 115] := ⟨by decide, by decide, by decide, by decide, by decide, by decide, by decide⟩
theorem name_id : AName [105, 100] := ⟨by decide, by decide, by decide, by decide, by decide, by decide, by decide⟩
theorem name_title : AName [116, 105, 116, 108, 101] := ⟨by decide, by decide, by decide, by decide, by decide, by decide, by decide⟩
end Go.Proofs.YtfdofkokiaapoaaGreatDoor.W
end
section
/- The contract of SetAttr. -/
namespace Go.Proofs.YtfdofkokiaapoaaGreatDoor.W
open Go.RowKit
set_option linter.unusedVariables false
set_option linter.unusedSimpArgs false

/-- a tree where the attributes of a node are others -/
theorem TAt.setAv {B R g cap : Nat} {S : Tr} {fv : Value} {w w' : World} (h : TAt B R S (.slice (some ⟨g, 0, none⟩) S.slots.length cap) fv w) {i : Nat} {n : Nd} (hi : S.at i = some n) (v : Value) (l : List Atr)
    (k : Chg (fun k => k = g) w w') (hs : w'.ownsRow B 141 10 (.slice (some ⟨g, 0, none⟩) S.slots.length cap) S.slots.length ((rowC S.slots).set (i * 10 + 1 + 2) v)) (ha : AttrAt B w' v l) :
    TAt B R (S.put i { n with av := v, attrs := l }) (.slice (some ⟨g, 0, none⟩) (S.put i { n with av := v, attrs := l }).slots.length cap) fv w' := by
  have hlt := at_lt hi
  have hlen : (S.put i { n with av := v, attrs := l }).slots.length = S.slots.length := by unfold Tr.put; simp
  obtain ⟨cur, hg⟩ : ∃ cur, w.heap[g]? = some (.cells cur 141 (0, 0)) := by
    rcases h.slots.2 with ⟨e, _⟩ | ⟨g', cap', cur, e, _, hh, _⟩
    · cases e
    · cases e; exact ⟨cur, hh⟩
  have other : ∀ {k : Nat} {cs : Array Value} {t : TypeId}, w.heap[k]? = some (.cells cs t (0, 0)) → 141 ≠ t → w'.heap[k]? = w.heap[k]? := fun hk ht => k.block _ (lt_of_block hk) (fun e => blk_ne hg hk ht e.symm)
  rw [hlen]
  refine ⟨?_, ?_, ?_, ?_, h.base, by rw [hlen]; exact h.few⟩
  · have := h.blk.kept (other h.blk (by decide))
    rw [live_put hi]
    exact this
  · rw [hlen]
    have e : rowC (S.put i { n with av := v, attrs := l }).slots = (rowC S.slots).set (i * 10 + 1 + 2) v := by
      have := rowC_set S.slots i (some { n with av := v, attrs := l }) hlt (1 + 2) v (by omega) (some n) (at_slot hi) rfl
      rw [← Nat.add_assoc] at this
      exact this
    rw [e]
    exact hs
  · obtain ⟨h1, h2⟩ := h.free
    refine ⟨h1, h2.imp id fun ⟨g', cap', cur', e1, e2, e3, rest⟩ => ⟨g', cap', cur', e1, e2, (other e3 (by decide)).trans e3, rest⟩⟩
  · intro k m hk
    have hcase : (k = i ∧ m = { n with av := v, attrs := l }) ∨ S.slots[k]? = some (some m) := by
      unfold Tr.put at hk
      simp only [] at hk
      by_cases e : i = k
      · subst e
        rw [List.getElem?_set_self hlt] at hk
        left; exact ⟨rfl, by simpa using hk.symm⟩
      · rw [List.getElem?_set_ne e] at hk
        right; exact hk
    rcases hcase with ⟨rfl, rfl⟩ | hk
    · exact ha
    · obtain ⟨a, cp, e, hx⟩ := h.attrs k m hk
      exact ⟨a, cp, e, hx.imp id fun ⟨g', cur', e1, e2, e3, e4⟩ => ⟨g', cur', e1, e2, (other e3 (by decide)).trans e3, e4⟩⟩

theorem nmOf_cases (l : List Atr) (x : List UInt8) : nmOf l x = -1 ∨ ∃ (k : Nat) (y : Atr), nmOf l x = (k : Int) ∧ l[k]? = some y := by
  unfold nmOf
  cases e : l.findIdx? (fun y => y.1 == x) with
  | none => exact .inl rfl
  | some k =>
    rw [List.findIdx?_eq_some_iff_getElem] at e
    exact .inr ⟨k, _, rfl, List.getElem?_eq_getElem e.1⟩
/-- what SetAttr answers -/
inductive SetOut (W : Nat) (S : Tr) (i : Nat) (n : Nd) (name : List UInt8) : Tr → Value → Int → List (List Value) → Prop
  | no (e : Int) : SetOut W S i n name S (.slice none 0 0) e []
  | yes (v av : Value) (l : List Atr) (old : List UInt8) (had : Bool) (hl : l.length ≤ 64) (hfr : ∀ k, av.ownBlock = some k → W ≤ k) : SetOut W S i n name (S.put i { n with av := av, attrs := l }) v 0 [recC 3 (S.hd i) 0 0 0 0 name old had 0 0]

theorem attrC_set (l : List Atr) (k : Nat) (y : Atr) (hy : l[k]? = some y) (v : List UInt8) : attrC (l.set k (y.1, v)) = (attrC l).set (2 * k + 1) (strV v) := by
  induction l generalizing k with
  | nil => simp at hy
  | cons x l ih =>
    cases k with
    | zero => simp at hy; subst hy; rfl
    | succ k =>
      have := ih k (by simpa using hy)
      rw [List.set_cons_succ]
      show atC x ++ attrC (l.set k (y.1, v)) = (atC x ++ attrC l).set (2 * (k + 1) + 1) (strV v)
      rw [this, List.set_append_right _ _ (by show 2 ≤ _; omega)]
      show _ = atC x ++ (attrC l).set (2 * (k + 1) + 1 - 2) (strV v)
      congr 2
theorem own_low' {w : World} {B e sz n : Nat} {v : Value} {xs : List Value} (h : w.ownsRow B e sz v n xs) : w.ownsRow B e sz v n xs := h
/-- one record in a slice of its own -/
theorem rc_new (w : World) (c : List Value) {B : Nat} (hB : B ≤ w.heap.size) (hc : c.length = 11) : RcAt (w.alloc (.cells c.toArray 86)) B (.slice (some ⟨w.heap.size, 0, none⟩) 1 1) [c] := by
  obtain ⟨h1, h2⟩ := own_at (n := 1) (size := 11) (Blk.new w c 86) (by omega) (by omega)
  refine ⟨by simpa using h1, ?_⟩
  rcases h2 with ⟨e, _⟩ | ⟨g', cap, cur, e, _, rest⟩
  · cases e
  · cases e; exact .inr ⟨w.heap.size, _, cur, rfl, hB, by simpa using rest⟩

set_option maxRecDepth 100000 in
set_option maxHeartbeats 8000000 in
theorem setAttr_el {B R g cap : Nat} {S : Tr} {fv : Value} {w : World} {K d} (h : TAt B R S (.slice (some ⟨g, 0, none⟩) S.slots.length cap) fv w) (hL : Lk S K d) (i : Nat) (n : Nd) (hi : S.at i = some n) (hk : n.kind = 2) (hl : n.attrs.length ≤ 64)
    (name val : List UInt8) (hn : AName name) (hv : val.length ≤ 1000) (hT : Laid w) :
    Calls Tryz.prog 31 #[.pointer (some ⟨R, 0, none⟩), .int .i64 (S.hd i), strV name, strV val] w fun e w' => ∃ S' v er l, SetOut w.heap.size S i n name S' v er l ∧ e = .returned (.tuple #[v, .int .i64 er]) ∧
      RcAt w' w.heap.size v l ∧ TAt B R S' (.slice (some ⟨g, 0, none⟩) S'.slots.length cap) fv w' ∧ Chg (fun k => k = g) w w' := by
  have HE := Lib.hid (element_el h hL i n hi hk)
  have HN := Lib.hid (fun wx (hb : Below w.heap.size w wx) => attrName_ok name hn wx (hT.below hb))
  have HR := Lib.hid (fun wx (hb : Below w.heap.size w wx) => repair_any val wx (by omega) (hT.below hb))
  have HM := Lib.hid (fun wx (hb : Below w.heap.size w wx) => named_any (h.below hb) i n hi name (by omega))
  have HTx := Lib.hid h
  have hnm := hn.len
  have hfl := fix_len val
  have Hi := Lib.hid hi
  clear hn hT h
  unfold strV at *
  generalize hval : fix val = val' at *
  have hsz : (⟨val'.toArray⟩ : ByteArray).size = val'.length := by show val'.toArray.size = _; simp
  have HLg := Lib.hid (fun wx => long_any ⟨val'.toArray⟩ (by rw [hsz]; omega) wx)
  rw [hsz, decide_eq_false (by omega)] at HLg
  have H2 := Lib.hid (fun wx (hb : Below w.heap.size w wx) => nd_cell (HTx.out.below hb) Hi.out 2 (by omega))
  simp only [ndC, List.getElem?_cons_succ, List.getElem?_cons_zero] at H2
  obtain ⟨va, vc, hva, _⟩ := HTx.out.attrs i n (at_slot hi)
  rw [hva] at H2
  clear hi hL
  go_enter Tryz.func31, Tryz.ntmps31
  go_wp2_with fail
  refine HE.out.mono ?_
  rintro e w1 ⟨rfl, hb1⟩
  go_wp2_with fail
  refine (HN.out _ hb1).mono ?_
  rintro e w2 ⟨rfl, hb2⟩
  have hB2 := bthen hb1 hb2
  go_wp2_with fail
  refine (HR.out _ hB2).mono ?_
  rintro e w3 ⟨rfl, hb3⟩
  have hB3 := bthen hB2 hb3
  go_wp2_with fail
  refine (HM.out _ hB3).mono ?_
  rintro e w4 ⟨rfl, hb4⟩
  have hB4 := bthen hB3 hb4
  have c2 := H2.out _ hB4
  go_wp2_with fail
  refine (HLg.out _).mono ?_
  rintro e w5 ⟨rfl, hw⟩
  rw [hw]
  clear hw
  have hcases := nmOf_cases n.attrs name
  generalize hr : nmOf n.attrs name = r at *
  clear HE HN HR HM HLg hb1 hb2 hb3 hb4 hB2 hB3 hr
  rcases hcases with rfl | ⟨k, y, rfl, hy⟩
  · by_cases hfull : n.attrs.length = 64
    · have d1 : decide ((64 : Int) ≤ (n.attrs.length : Int)) = true := by simp; omega
      go_wp2_with fail
      go_ret2
      exact ⟨S, _, 5, [], .no 5, rfl, World.ownsRow_nil _ _ _ _, HTx.out.below hB4, Chg.of_below hB4⟩
    · have d1 : decide ((64 : Int) ≤ (n.attrs.length : Int)) = false := by simp; omega
      go_upto_region 11 with fail
      have k6 : Blk (w4.alloc (.cells #[.int .i64 3, .int .i64 (S.hd i), .int .i64 0, .int .i64 0, .int .i64 0, .int .i64 0, .string ⟨name.toArray⟩, .string ⟨#[]⟩, .bool false, .int .i64 0, .int .i64 0] 86)) w4.heap.size [.int .i64 3, .int .i64 (S.hd i), .int .i64 0, .int .i64 0, .int .i64 0, .int .i64 0, .string ⟨name.toArray⟩, .string ⟨#[]⟩, .bool false, .int .i64 0, .int .i64 0] 86 := Blk.new w4 _ _
      have hB6 : Below w.heap.size w (w4.alloc (.cells #[.int .i64 3, .int .i64 (S.hd i), .int .i64 0, .int .i64 0, .int .i64 0, .int .i64 0, .string ⟨name.toArray⟩, .string ⟨#[]⟩, .bool false, .int .i64 0, .int .i64 0] 86)) := hB4.alloc hB4.size _
      have hr6 : w.heap.size ≤ w4.heap.size := hB4.size
      generalize hrb : w4.heap.size = rb at *
      generalize w4.alloc (.cells #[.int .i64 3, .int .i64 (S.hd i), .int .i64 0, .int .i64 0, .int .i64 0, .int .i64 0, .string ⟨name.toArray⟩, .string ⟨#[]⟩, .bool false, .int .i64 0, .int .i64 0] 86) = w6 at *
      have hT6 := HTx.out.below hB6
      have c6 := H2.out _ hB6
      have HCl := Lib.hid (clone_attr (hva ▸ hT6.attrs i n (at_slot Hi.out)) (by omega))
      have z2 := nd_free hT6 (i * 10 + 1 + 2)
      have HT6 := Lib.hid hT6
      have HK6 := Lib.hid k6
      clear hT6 k6 c2
      go_wp2_with fail
      refine HCl.out.mono ?_
      rintro e w7 ⟨v1, rfl, hown7, hb7⟩
      have hB7 := bthen hB6 hb7
      have hT7 := HTx.out.below hB7
      have c7 := H2.out _ hB7
      have z7 := nd_free hT7 (i * 10 + 1 + 2)
      obtain ⟨a1, cap1, rfl⟩ := own_shapeB hown7
      have HO7 := Lib.hid hown7
      have HT7 := Lib.hid hT7
      have HK7 := Lib.hid (HK6.out.below hb7)
      clear hT7 hown7 HCl z2 c6
      go_upto_region 12 with fail
      have hrow8 := own_setB HT7.out.slots (i * 10 + 1 + 2) (.slice a1 n.attrs.length cap1)
      have hch8 : Chg (fun k => k = g) w (w7.setCell ⟨g, i * 10 + 1 + 2, none⟩ (.slice a1 n.attrs.length cap1)) := (Chg.of_below (F := fun k => k = g) hB7).setCell ⟨g, i * 10 + 1 + 2, none⟩ (fun _ => (rfl : g = g)) _
      have hidx : i * 10 + 1 + 2 < (rowC S.slots).length := by rw [rowC_len]; have := at_lt Hi.out; omega
      have hc8 : (w7.setCell ⟨g, i * 10 + 1 + 2, none⟩ (.slice a1 n.attrs.length cap1)).cell? ⟨g, i * 10 + 1 + 2, none⟩ = some (.slice a1 n.attrs.length cap1) := by
        have := hrow8.cells (g := g) rfl (i * 10 + 1 + 2) (.slice a1 n.attrs.length cap1) (List.getElem?_set_self hidx)
        rwa [Go.WideShapes.add_plain, Nat.zero_add] at this
      have hz8 : (w7.setCell ⟨g, i * 10 + 1 + 2, none⟩ (.slice a1 n.attrs.length cap1)).frozen? ⟨g, i * 10 + 1 + 2, none⟩ = false := by
        rcases hrow8.2 with ⟨e, _⟩ | ⟨g', cap', cur, e, _, hh, _⟩
        · cases e
        · cases e; exact Lib.frozen_of_heap hh _
      have hg0 := (HTx.out.slots.lt g rfl).2
      have HK8 := Lib.hid (HK7.out.setOther ⟨g, i * 10 + 1 + 2, none⟩ (by show rb ≠ g; omega) (.slice a1 n.attrs.length cap1))
      have hne1 : ∀ k, (Value.slice a1 n.attrs.length cap1).ownBlock = some k → k ≠ g := fun k hk e => by have := (HO7.out.lt k hk).1; have := hB6.size; omega
      have HO8 := Lib.hid (own_kB (w' := w7.setCell ⟨g, i * 10 + 1 + 2, none⟩ (.slice a1 n.attrs.length cap1)) HO7.out (fun g' hg' => Below.heap_setCell _ _ _ _ (hne1 g' hg')))
      have HRow8 := Lib.hid hrow8
      have HCh8 := Lib.hid hch8
      have hs8 : w6.heap.size ≤ (w7.setCell ⟨g, i * 10 + 1 + 2, none⟩ (.slice a1 n.attrs.length cap1)).heap.size := by simp [World.setCell]; exact hb7.size
      clear hrow8 hch8 HK7 HO7 HT7 c7 z7 hb7
      generalize w7.setCell ⟨g, i * 10 + 1 + 2, none⟩ (.slice a1 n.attrs.length cap1) = w8 at *
      obtain ⟨i0, hi0, hz0, hz1, hz2⟩ := info_parts infoA
      have HLc := Lib.hid (attrC_len n.attrs)
      have HSn := Lib.hid (show attrC (n.attrs ++ [(name, val')]) = attrC n.attrs ++ [.string ⟨name.toArray⟩, .string ⟨val'.toArray⟩] from attrC_snoc n.attrs (name, val'))
      generalize attrC n.attrs = ys at *
      go_wp2_with (at_builtin; refine wpList_append_own _ rfl _ _ 111 rfl w6.heap.size 118 i0 _ 2 32 Tryz.underlying111 hi0 hz0 hz1 hz2 rfl (by decide) _ n.attrs.length _ rfl (HO8.out.alloc _) _ 1 1 [.string ⟨name.toArray⟩, .string ⟨val'.toArray⟩] rfl rfl ?cc ?co ?c1 ?c2 ?c3 ?_)
      case cc =>
        intro j u hu
        have := (Blk.new w8 [.string ⟨name.toArray⟩, .string ⟨val'.toArray⟩] 118).cell j
        rw [Go.WideShapes.add_plain, Nat.zero_add]
        exact this.trans hu
      case co => intro u hu; simp only [List.mem_cons, List.not_mem_nil, or_false] at hu; rcases hu with rfl | rfl <;> rfl
      case c1 => unfold maxLen; omega
      case c2 => omega
      case c3 => simp; omega
      intro v2 w9 hown9 hgr9 _
      obtain ⟨a2, cap2, rfl⟩ := own_shapeB hown9
      have hC9 : Chg (fun k => (Value.slice a1 n.attrs.length cap1).ownBlock = some k) w8 w9 := ((Chg.refl _ w8).alloc _).grown hgr9 (fun k e _ => e)
      have hrow9 := own_kB (w' := w9) HRow8.out (fun g' hg' => hC9.block g' (HRow8.out.lt g' hg').2 (fun e => by cases hg'; exact hne1 _ e rfl))
      have hk9 : Blk w9 rb _ _ := HK8.out.chg hC9 (fun e => by have := (HO8.out.lt rb e).1; have h1 := HK6.out.lt; omega)
      have hc9 : w9.cell? ⟨g, i * 10 + 1 + 2, none⟩ = some (.slice a1 n.attrs.length cap1) := by
        have := hrow9.cells (g := g) rfl (i * 10 + 1 + 2) (.slice a1 n.attrs.length cap1) (List.getElem?_set_self hidx)
        rwa [Go.WideShapes.add_plain, Nat.zero_add] at this
      have hz9 : w9.frozen? ⟨g, i * 10 + 1 + 2, none⟩ = false := by
        rcases hrow9.2 with ⟨e, _⟩ | ⟨g', cap', cur, e, _, hh, _⟩
        · cases e
        · cases e; exact Lib.frozen_of_heap hh _
      have hch9 : Chg (fun k => k = g) w w9 := HCh8.out.trans hC9 (fun k hk e => by have := (HO8.out.lt k e).1; have := hB6.size; omega)
      have HRow9 := Lib.hid hrow9
      have HCh9 := Lib.hid hch9
      have HK9 := Lib.hid hk9
      have HO9 := Lib.hid hown9
      have hs9 : w6.heap.size ≤ w9.heap.size := Nat.le_trans hs8 hC9.size
      clear hown9 hgr9 hC9 hrow9 hk9 hch9 HRow8 HCh8 HK8 HO8 hc8 hz8 HLc
      go_upto_region 16 with fail
      have hrow10 := own_setB HRow9.out (i * 10 + 1 + 2) (.slice a2 (n.attrs.length + 1) cap2)
      rw [List.set_set] at hrow10
      have hch10 := HCh9.out.setCell ⟨g, i * 10 + 1 + 2, none⟩ (fun _ => (rfl : g = g)) (.slice a2 (n.attrs.length + 1) cap2)
      have hne2 : ∀ k, (Value.slice a2 (n.attrs.length + 1) cap2).ownBlock = some k → k ≠ g := fun k hk e => by have := (HO9.out.lt k hk).1; have := hB6.size; omega
      have hown10 := own_kB (w' := w9.setCell ⟨g, i * 10 + 1 + 2, none⟩ (.slice a2 (n.attrs.length + 1) cap2)) HO9.out (fun g' hg' => Below.heap_setCell _ _ _ _ (hne2 g' hg'))
      have hk10 := HK9.out.setOther ⟨g, i * 10 + 1 + 2, none⟩ (by show rb ≠ g; omega) (.slice a2 (n.attrs.length + 1) cap2)
      have hfr : ∀ k, (Value.slice a2 (n.attrs.length + 1) cap2).ownBlock = some k → w.heap.size ≤ k := fun k hk => Nat.le_trans hB6.size (HO9.out.lt k hk).1
      have hs10 : w6.heap.size ≤ (w9.setCell ⟨g, i * 10 + 1 + 2, none⟩ (.slice a2 (n.attrs.length + 1) cap2)).heap.size := by simp [World.setCell]; exact hs9
      rw [← HSn.out] at hown10
      have HT10 := Lib.hid (HTx.out.setAv Hi.out (.slice a2 (n.attrs.length + 1) cap2) (n.attrs ++ [(name, val')]) hch10 (own_low' hrow10) (attr_of_own (B := B) (by rw [List.length_append, List.length_singleton]; exact hown10) (by have := HTx.out.base; have := HTx.out.blk.lt; have := hB6.size; omega)))
      have HCh10 := Lib.hid hch10
      clear hrow10 hch10 hown10 HRow9 HCh9 HK9 HO9 hc9 hz9
      generalize w9.setCell ⟨g, i * 10 + 1 + 2, none⟩ (.slice a2 (n.attrs.length + 1) cap2) = w10 at *
      have b0 := hk10.cell 0
      have b1 := hk10.cell 1
      have b2 := hk10.cell 2
      have b3 := hk10.cell 3
      have b4 := hk10.cell 4
      have b5 := hk10.cell 5
      have b6 := hk10.cell 6
      have b7 := hk10.cell 7
      have b8 := hk10.cell 8
      have b9 := hk10.cell 9
      have b10 := hk10.cell 10
      simp only [List.getElem?_cons_succ, List.getElem?_cons_zero] at b0 b1 b2 b3 b4 b5 b6 b7 b8 b9 b10
      go_wp2_with fail
      go_ret2
      refine ⟨_, _, 0, _, .yes _ (.slice a2 (n.attrs.length + 1) cap2) (n.attrs ++ [(name, val')]) [] false (by rw [List.length_append, List.length_singleton]; omega) hfr, rfl, ?_, HT10.out.below ((Below.refl _ w10).alloc (Nat.le_refl _) _), HCh10.out.alloc _⟩
      exact rc_new w10 _ (Nat.le_trans hB6.size hs10) rfl
  · have d1 : decide ((k : Int) < 0) = false := by simp
    go_upto_region 11 with fail
    have k6 : Blk (w4.alloc (.cells #[.int .i64 3, .int .i64 (S.hd i), .int .i64 0, .int .i64 0, .int .i64 0, .int .i64 0, .string ⟨name.toArray⟩, .string ⟨#[]⟩, .bool false, .int .i64 0, .int .i64 0] 86)) w4.heap.size [.int .i64 3, .int .i64 (S.hd i), .int .i64 0, .int .i64 0, .int .i64 0, .int .i64 0, .string ⟨name.toArray⟩, .string ⟨#[]⟩, .bool false, .int .i64 0, .int .i64 0] 86 := Blk.new w4 _ _
    have hB6 : Below w.heap.size w (w4.alloc (.cells #[.int .i64 3, .int .i64 (S.hd i), .int .i64 0, .int .i64 0, .int .i64 0, .int .i64 0, .string ⟨name.toArray⟩, .string ⟨#[]⟩, .bool false, .int .i64 0, .int .i64 0] 86)) := hB4.alloc hB4.size _
    have hr6 : w.heap.size ≤ w4.heap.size := hB4.size
    generalize hrb : w4.heap.size = rb at *
    generalize w4.alloc (.cells #[.int .i64 3, .int .i64 (S.hd i), .int .i64 0, .int .i64 0, .int .i64 0, .int .i64 0, .string ⟨name.toArray⟩, .string ⟨#[]⟩, .bool false, .int .i64 0, .int .i64 0] 86) = w6 at *
    have hT6 := HTx.out.below hB6
    have c6 := H2.out _ hB6
    have HCl := Lib.hid (clone_attr (hva ▸ hT6.attrs i n (at_slot Hi.out)) (by omega))
    have z2 := nd_free hT6 (i * 10 + 1 + 2)
    have HT6 := Lib.hid hT6
    have HK6 := Lib.hid k6
    clear hT6 k6 c2
    go_wp2_with fail
    refine HCl.out.mono ?_
    rintro e w7 ⟨v1, rfl, hown7, hb7⟩
    have hB7 := bthen hB6 hb7
    have hT7 := HTx.out.below hB7
    have c7 := H2.out _ hB7
    have z7 := nd_free hT7 (i * 10 + 1 + 2)
    obtain ⟨a1, cap1, rfl⟩ := own_shapeB hown7
    have HO7 := Lib.hid hown7
    have HT7 := Lib.hid hT7
    have HK7 := Lib.hid (HK6.out.below hb7)
    clear hT7 hown7 HCl z2 c6
    go_upto_region 12 with fail
    have hrow8 := own_setB HT7.out.slots (i * 10 + 1 + 2) (.slice a1 n.attrs.length cap1)
    have hch8 : Chg (fun k => k = g) w (w7.setCell ⟨g, i * 10 + 1 + 2, none⟩ (.slice a1 n.attrs.length cap1)) := (Chg.of_below (F := fun k => k = g) hB7).setCell ⟨g, i * 10 + 1 + 2, none⟩ (fun _ => (rfl : g = g)) _
    have hidx : i * 10 + 1 + 2 < (rowC S.slots).length := by rw [rowC_len]; have := at_lt Hi.out; omega
    have hc8 : (w7.setCell ⟨g, i * 10 + 1 + 2, none⟩ (.slice a1 n.attrs.length cap1)).cell? ⟨g, i * 10 + 1 + 2, none⟩ = some (.slice a1 n.attrs.length cap1) := by
      have := hrow8.cells (g := g) rfl (i * 10 + 1 + 2) (.slice a1 n.attrs.length cap1) (List.getElem?_set_self hidx)
      rwa [Go.WideShapes.add_plain, Nat.zero_add] at this
    have hz8 : (w7.setCell ⟨g, i * 10 + 1 + 2, none⟩ (.slice a1 n.attrs.length cap1)).frozen? ⟨g, i * 10 + 1 + 2, none⟩ = false := by
      rcases hrow8.2 with ⟨e, _⟩ | ⟨g', cap', cur, e, _, hh, _⟩
      · cases e
      · cases e; exact Lib.frozen_of_heap hh _
    have hg0 := (HTx.out.slots.lt g rfl).2
    have HK8 := Lib.hid (HK7.out.setOther ⟨g, i * 10 + 1 + 2, none⟩ (by show rb ≠ g; omega) (.slice a1 n.attrs.length cap1))
    have hne1 : ∀ k, (Value.slice a1 n.attrs.length cap1).ownBlock = some k → k ≠ g := fun k hk e => by have := (HO7.out.lt k hk).1; have := hB6.size; omega
    have HO8 := Lib.hid (own_kB (w' := w7.setCell ⟨g, i * 10 + 1 + 2, none⟩ (.slice a1 n.attrs.length cap1)) HO7.out (fun g' hg' => Below.heap_setCell _ _ _ _ (hne1 g' hg')))
    have HRow8 := Lib.hid hrow8
    have HCh8 := Lib.hid hch8
    have hs8 : w6.heap.size ≤ (w7.setCell ⟨g, i * 10 + 1 + 2, none⟩ (.slice a1 n.attrs.length cap1)).heap.size := by simp [World.setCell]; exact hb7.size
    clear hrow8 hch8 HK7 HO7 HT7 c7 z7 hb7
    generalize w7.setCell ⟨g, i * 10 + 1 + 2, none⟩ (.slice a1 n.attrs.length cap1) = w8 at *
    have hkl := (List.getElem?_eq_some_iff.1 hy).1
    obtain ⟨ga, hga⟩ : ∃ ga, a1 = some ⟨ga, 0, none⟩ := by
      rcases HO8.out.2 with ⟨e, _⟩ | ⟨ga, cap', cur, e, _⟩
      · simp only [Value.slice.injEq] at e; omega
      · simp only [Value.slice.injEq] at e; exact ⟨ga, e.1⟩
    subst hga
    have hga6 := (HO8.out.lt ga rfl).1
    have hga8 := (HO8.out.lt ga rfl).2
    have hrb6 := HK6.out.lt
    have hyc := (attrC_at n.attrs k y hy).2
    have hat := attrC_len n.attrs
    have q1 : w8.cell? ⟨ga, k * 2 + 1, none⟩ = some (strV y.2) := by
      have := HO8.out.cells (g := ga) rfl (2 * k + 1) _ hyc
      rw [Go.WideShapes.add_plain, Nat.zero_add] at this
      rw [show k * 2 + 1 = 2 * k + 1 by omega]
      exact this
    have p7 := HK8.out.cell 7
    have p8 := HK8.out.cell 8
    simp only [List.getElem?_cons_succ, List.getElem?_cons_zero] at p7 p8
    have zf := HK8.out.free
    unfold strV at q1
    go_upto_region 15 with fail
    have hk9 := (HK8.out.set 7 (.string ⟨y.2.toArray⟩)).set 8 (.bool true)
    simp only [List.set_cons_succ, List.set_cons_zero] at hk9
    have hgrb : g ≠ rb := by omega
    have hgarb : ga ≠ rb := by omega
    have oth : ∀ k', k' ≠ rb → ((w8.setCell ⟨rb, 7, none⟩ (.string ⟨y.2.toArray⟩)).setCell ⟨rb, 8, none⟩ (.bool true)).heap[k']? = w8.heap[k']? := fun k' hk' => (Below.heap_setCell _ _ _ _ hk').trans (Below.heap_setCell _ _ _ _ hk')
    have hrow9 := own_kB HRow8.out (fun g' hg' => oth g' (by cases hg'; exact hgrb))
    have hown9 := own_kB HO8.out (fun g' hg' => oth g' (by cases hg'; exact hgarb))
    have hch9 := (HCh8.out.setCell ⟨rb, 7, none⟩ (fun hk => by have : rb < w.heap.size := hk; omega) (.string ⟨y.2.toArray⟩)).setCell ⟨rb, 8, none⟩ (fun hk => by have : rb < w.heap.size := hk; omega) (.bool true)
    have hs9 : w6.heap.size ≤ ((w8.setCell ⟨rb, 7, none⟩ (.string ⟨y.2.toArray⟩)).setCell ⟨rb, 8, none⟩ (.bool true)).heap.size := by simp [World.setCell]; exact hs8
    clear hc8 hz8 HRow8 HO8 HCh8 HK8 p7 p8 zf q1 oth
    generalize (w8.setCell ⟨rb, 7, none⟩ (.string ⟨y.2.toArray⟩)).setCell ⟨rb, 8, none⟩ (.bool true) = w9 at *
    have hc9 : w9.cell? ⟨g, i * 10 + 1 + 2, none⟩ = some (.slice (some ⟨ga, 0, none⟩) n.attrs.length cap1) := by
      have := hrow9.cells (g := g) rfl (i * 10 + 1 + 2) (.slice (some ⟨ga, 0, none⟩) n.attrs.length cap1) (List.getElem?_set_self hidx)
      rwa [Go.WideShapes.add_plain, Nat.zero_add] at this
    have q9 : w9.cell? ⟨ga, k * 2 + 1, none⟩ = some (strV y.2) := by
      have := hown9.cells (g := ga) rfl (2 * k + 1) _ hyc
      rw [Go.WideShapes.add_plain, Nat.zero_add] at this
      rw [show k * 2 + 1 = 2 * k + 1 by omega]
      exact this
    have hz9 : w9.frozen? ⟨ga, k * 2 + 1, none⟩ = false := by
      rcases hown9.2 with ⟨e, _⟩ | ⟨g', cap', cur, e, _, hh, _⟩
      · cases e
      · cases e; exact Lib.frozen_of_heap hh _
    have HRow9 := Lib.hid hrow9
    have HO9 := Lib.hid hown9
    have HCh9 := Lib.hid hch9
    have HK9 := Lib.hid hk9
    clear hrow9 hown9 hch9 hk9
    unfold strV at q9
    go_upto_region 16 with fail
    have hgag : g ≠ ga := by omega
    have hrow10 := own_kB (w' := w9.setCell ⟨ga, k * 2 + 1, none⟩ (.string ⟨val'.toArray⟩)) HRow9.out (fun g' hg' => Below.heap_setCell _ _ _ _ (by cases hg'; exact hgag))
    have hown10 := own_setB HO9.out (k * 2 + 1) (.string ⟨val'.toArray⟩)
    have hch10 := HCh9.out.setCell ⟨ga, k * 2 + 1, none⟩ (fun hk => by have : ga < w.heap.size := hk; have := hB6.size; omega) (.string ⟨val'.toArray⟩)
    have hfr : ∀ k', (Value.slice (some ⟨ga, 0, none⟩) n.attrs.length cap1).ownBlock = some k' → w.heap.size ≤ k' := fun k' hk' => Nat.le_trans hB6.size (HO9.out.lt k' hk').1
    have hk10 := HK9.out.setOther ⟨ga, k * 2 + 1, none⟩ (by show rb ≠ ga; omega) (.string ⟨val'.toArray⟩)
    have hs10 : w6.heap.size ≤ (w9.setCell ⟨ga, k * 2 + 1, none⟩ (.string ⟨val'.toArray⟩)).heap.size := by simp [World.setCell]; exact hs9
    have e5 : (attrC n.attrs).set (k * 2 + 1) (.string ⟨val'.toArray⟩) = attrC (n.attrs.set k (y.1, val')) := by
      rw [show k * 2 + 1 = 2 * k + 1 by omega]; exact (attrC_set n.attrs k y hy val').symm
    rw [e5] at hown10
    have HT10 := Lib.hid (HTx.out.setAv Hi.out (.slice (some ⟨ga, 0, none⟩) n.attrs.length cap1) (n.attrs.set k (y.1, val')) hch10 (own_low' hrow10) (attr_of_own (B := B) (by rw [List.length_set]; exact hown10) (by have := HTx.out.base; have := HTx.out.blk.lt; have := hB6.size; omega)))
    have HCh10 := Lib.hid hch10
    clear hrow10 hch10 hown10 HRow9 HCh9 HK9 HO9 hc9 hz9 q9
    generalize w9.setCell ⟨ga, k * 2 + 1, none⟩ (.string ⟨val'.toArray⟩) = w10 at *
    have b0 := hk10.cell 0
    have b1 := hk10.cell 1
    have b2 := hk10.cell 2
    have b3 := hk10.cell 3
    have b4 := hk10.cell 4
    have b5 := hk10.cell 5
    have b6 := hk10.cell 6
    have b7 := hk10.cell 7
    have b8 := hk10.cell 8
    have b9 := hk10.cell 9
    have b10 := hk10.cell 10
    simp only [List.getElem?_cons_succ, List.getElem?_cons_zero] at b0 b1 b2 b3 b4 b5 b6 b7 b8 b9 b10
    go_wp2_with fail
    go_ret2
    refine ⟨_, _, 0, _, .yes _ (.slice (some ⟨ga, 0, none⟩) n.attrs.length cap1) (n.attrs.set k (y.1, val')) y.2 true (by rw [List.length_set]; omega) hfr, rfl, ?_, HT10.out.below ((Below.refl _ w10).alloc (Nat.le_refl _) _), HCh10.out.alloc _⟩
    exact rc_new w10 _ (Nat.le_trans hB6.size hs10) rfl
end Go.Proofs.YtfdofkokiaapoaaGreatDoor.W
end
section
/- Objects that lie apart: some of them, in another order. No program in sight. -/
namespace Go.Proofs.YtfdofkokiaapoaaGreatDoor.W
open Go.RowKit
set_option linter.unusedVariables false

theorem apart_get {l : List Ob} (h : l.Pairwise fun a b => ∀ k, a.F k → ¬ b.F k) {i j : Nat} {a b : Ob} (hij : i ≠ j) (ha : l[i]? = some a) (hb : l[j]? = some b) : ∀ k, a.F k → ¬ b.F k := by
  rw [List.pairwise_iff_getElem] at h
  obtain ⟨hi, rfl⟩ := List.getElem?_eq_some_iff.1 ha
  obtain ⟨hj, rfl⟩ := List.getElem?_eq_some_iff.1 hb
  rcases Nat.lt_or_gt_of_ne hij with hlt | hgt
  · exact h i j hi hj hlt
  · exact fun k h1 h2 => h j i hj hi hgt k h2 h1
/-- some of the objects, in another order -/
theorem All.sel {B : Nat} {w0 w : World} {l : List Ob} (h : All B w0 l w) (is : List Nat) (hn : is.Nodup) : All B w0 (is.filterMap fun i => l[i]?) w := by
  have hmem : ∀ o ∈ is.filterMap (fun i => l[i]?), o ∈ l := by
    intro o ho
    obtain ⟨i, _, hi⟩ := List.mem_filterMap.1 ho
    exact List.mem_of_getElem? hi
  refine ⟨fun o ho => h.P o (hmem o ho), ?_, fun o ho => h.base o (hmem o ho), h.below, h.le⟩
  clear hmem
  induction is with
  | nil => simp
  | cons i is ih =>
    rw [List.nodup_cons] at hn
    rw [List.filterMap_cons]
    split
    · exact ih hn.2
    · rename_i a ha
      rw [List.pairwise_cons]
      refine ⟨fun b hb => ?_, ih hn.2⟩
      obtain ⟨j, hj, hjb⟩ := List.mem_filterMap.1 hb
      exact apart_get h.apart (by rintro rfl; exact hn.1 hj) ha hjb

theorem fm_range (pre : List Ob) : ∀ (l : List Ob) (pre2 : List Ob), (List.range' (pre.length + pre2.length) l.length).filterMap (fun i => (pre ++ (pre2 ++ l))[i]?) = l := by
  intro l
  induction l with
  | nil => intro pre2; simp
  | cons x l ih =>
    intro pre2
    rw [List.length_cons, List.range'_succ, List.filterMap_cons]
    have e : (pre ++ (pre2 ++ x :: l))[pre.length + pre2.length]? = some x := by
      rw [List.getElem?_append_right (by omega), List.getElem?_append_right (by omega)]
      simp [Nat.add_sub_cancel_left]
    rw [e]
    have := ih (pre2 ++ [x])
    simp only [List.append_assoc, List.cons_append, List.nil_append, List.length_append, List.length_cons, List.length_nil, Nat.zero_add] at this
    simp only [Nat.add_assoc] at this ⊢
    rw [this]
/-- the first objects in another order, the others kept -/
theorem All.selp {B : Nat} {w0 w : World} (pre : List Ob) {l : List Ob} (h : All B w0 (pre ++ l) w) (ix : List Nat) (hn : ix.Nodup) (m : Nat) (hm : pre.length = m) (hl' : ∀ i ∈ ix, i < m) : All B w0 (ix.filterMap (fun i => pre[i]?) ++ l) w := by
  have hl : ∀ i ∈ ix, i < pre.length := by rw [hm]; exact hl'
  have h1 := h.sel (ix ++ List.range' pre.length l.length) (by
    rw [List.nodup_append]
    refine ⟨hn, List.nodup_range', ?_⟩
    rintro a ha b hb rfl
    have := hl a ha
    rw [List.mem_range'_1] at hb
    omega)
  rw [List.filterMap_append] at h1
  have e1 : (List.range' pre.length l.length).filterMap (fun i => (pre ++ l)[i]?) = l := by
    have := fm_range pre l []
    simpa using this
  have e2 : ix.filterMap (fun i => (pre ++ l)[i]?) = ix.filterMap (fun i => pre[i]?) := by
    clear hn h1 hl'
    induction ix with
    | nil => rfl
    | cons i ix ih =>
      rw [List.filterMap_cons, List.filterMap_cons, List.getElem?_append_left (hl i (by simp)), ih (fun j hj => hl j (by simp [hj]))]
  rw [e1, e2] at h1
  exact h1

theorem bk_ne {B : Nat} {w0 w : World} {l : List Ob} (h : All B w0 l w) (i j : Nat) (hij : i ≠ j) {g g' : Nat} {cs cs' : List Value} {t t' : TypeId} (hi : l[i]? = some (bk g cs t)) (hj : l[j]? = some (bk g' cs' t')) : g ≠ g' := fun e =>
  apart_get h.apart hij hi hj g rfl e

end Go.Proofs.YtfdofkokiaapoaaGreatDoor.W
end
