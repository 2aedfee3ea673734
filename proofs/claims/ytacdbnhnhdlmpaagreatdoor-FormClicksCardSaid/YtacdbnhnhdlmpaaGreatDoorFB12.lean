/- Texts joined: Low Name Elem AttrC Txt SetA Repl Rfx. -/
import Derived.Test.YtacdbnhnhdlmpaaGreatDoorFB11
import Derived.Laws.IdiomStrings
import Derived.Test.YtacdbnhnhdlmpaaGreatDoorFB10
import Derived.WalkSpells
import Derived.Laws.Cover1
import Derived.Test.YtacdbnhnhdlmpaaGreatDoorFB8
import Derived.Lib.AppendStr
import Derived.Lib.AppendIntMem
import Derived.Laws.BytesArg
set_option maxRecDepth 100000
set_option maxHeartbeats 40000000
set_option linter.unusedVariables false
set_option linter.unusedSimpArgs false
section
namespace Go.Proofs.YtacdbnhnhdlmpaaGreatDoor.W
open Go.RowKit
def lowB (b : UInt8) : UInt8 := if 65 ≤ b.toNat ∧ b.toNat ≤ 90 then UInt8.ofNat (b.toNat + 32) else b
structure LwR (w : World) (l : List UInt8) (k : Nat) (wr : World) : Prop where
  cell : ∀ j b, l[j]? = some b → wr.cell? ⟨w.heap.size, j, none⟩ = some (.int .u8 (((if j < k then lowB b else b).toNat : Nat) : Int))
  free : ∀ j, j < l.length → wr.frozen? ⟨w.heap.size, j, none⟩ = false
  below : Below w.heap.size w wr
  lt : w.heap.size < wr.heap.size
theorem LwR.start (w : World) (s : ByteArray) (cap : Nat) (t : TypeId) : LwR w s.data.toList 0 (w.drew.alloc (.cells (bytesRow s cap) t ((bytesRow s cap).size, (bytesRow s cap).size + 1))) := by
  have hn : (w.drew.alloc (.cells (bytesRow s cap) t ((bytesRow s cap).size, (bytesRow s cap).size + 1))).heap[w.heap.size]? = some (.cells (bytesRow s cap) t ((bytesRow s cap).size, (bytesRow s cap).size + 1)) := heap_alloc_new w.drew _
  refine ⟨?_, ?_, (Below.refl _ _).drew.alloc (Nat.le_refl _) _, by simp⟩
  · intro j b hb
    have hj : j < s.data.size := by have := (List.getElem?_eq_some_iff.1 hb).1; simpa using this
    rw [if_neg (by omega)]
    unfold World.cell?
    simp only [hn]
    unfold bytesRow
    rw [Array.getElem?_append_left (by simpa using hj), Array.getElem?_map]
    have : s.data[j]? = some b := by simpa using hb
    rw [this]
    rfl
  · intro j hj
    have hj : j < s.data.size := by simpa using hj
    unfold World.frozen?
    simp only [hn]
    have : (bytesRow s cap).size ≥ s.data.size := by unfold bytesRow; simp
    simp; omega
theorem LwR.skip {w wr : World} {l : List UInt8} {k : Nat} (h : LwR w l k wr) {b : UInt8} (hb : l[k]? = some b) (hn : lowB b = b) : LwR w l (k + 1) wr := by
  refine ⟨fun j c hc => ?_, h.free, h.below, h.lt⟩
  have := h.cell j c hc
  by_cases e : j = k
  · subst e
    rw [hb] at hc
    cases hc
    rw [if_pos (by omega), hn]
    rw [if_neg (by omega)] at this
    exact this
  · by_cases e2 : j < k
    · rw [if_pos (by omega)]; rw [if_pos e2] at this; exact this
    · rw [if_neg (by omega)]; rw [if_neg e2] at this; exact this
theorem LwR.put {w wr : World} {l : List UInt8} {k : Nat} (h : LwR w l k wr) {b : UInt8} (hb : l[k]? = some b) {v : Int} (hv : v = ((lowB b).toNat : Nat)) : LwR w l (k + 1) (wr.setCell ⟨w.heap.size, k, none⟩ (.int .u8 v)) := by
  have hin := h.cell k b hb
  refine ⟨fun j c hc => ?_, fun j hj => ?_, h.below.setCell (p := ⟨w.heap.size, k, none⟩) (Nat.le_refl _) _, by simpa using h.lt⟩
  · have := h.cell j c hc
    by_cases e : j = k
    · subst e
      rw [hb] at hc
      cases hc
      rw [if_pos (by omega), ← hv]
      exact World.cell?_setCell_same _ _ _ hin
    · rw [World.cell?_setCell_other _ _ _ _ (by intro e2; simp only [Addr.mk.injEq] at e2; exact e e2.2.1.symm)]
      by_cases e2 : j < k
      · rw [if_pos (by omega)]; rw [if_pos e2] at this; exact this
      · rw [if_neg (by omega)]; rw [if_neg e2] at this; exact this
  · rw [World.frozen?_setCell]; exact h.free j hj
set_option maxRecDepth 100000 in
set_option maxHeartbeats 4000000 in
theorem mapped_low (s : ByteArray) (hs : s.size ≤ 9000000000000000000) (w : World) :
    Calls Tryz.prog 165 #[.string s, .int .u8 65, .int .u8 90, .int .i64 32] w fun e w' => e = .returned (.string ⟨(s.data.toList.map lowB).toArray⟩) ∧ Below w.heap.size w w' := by
  have hc := run_bytes_of_string (P := Tryz.prog) w 9 87 5 s Tryz.underlying9 Tryz.underlying87 Tryz.underlying5
  have hst := LwR.start w s (grownCap w s.size 0 5) 5
  have hback := fun (wr : World) (h : LwR w s.data.toList s.data.toList.length wr) (cap : Nat) => run_convert_bytes_back (P := Tryz.prog) wr 87 9 5 ⟨w.heap.size, 0, none⟩ cap (s.data.toList.map lowB) Tryz.underlying87 Tryz.underlying5 Tryz.underlying9 (fun j hj => by
    have hj' : j < s.data.toList.length := by simpa using hj
    have := h.cell j s.data.toList[j] (List.getElem?_eq_getElem hj')
    rw [if_pos hj'] at this
    rw [Go.WideShapes.add_plain]
    simpa using this)
  have hsz : s.data.toList.length = s.size := Array.length_toList
  simp only [List.length_map, hsz] at hback
  have HBK := Lib.hid hback
  have HST := Lib.hid hst
  have HSZ := Lib.hid hsz
  clear hback hst hsz
  generalize w.drew.alloc (.cells (bytesRow s (grownCap w s.size 0 5)) 5 ((bytesRow s (grownCap w s.size 0 5)).size, (bytesRow s (grownCap w s.size 0 5)).size + 1)) = W at *
  generalize grownCap w s.size 0 5 = cap at *
  go_enter Tryz.func165, Tryz.ntmps165
  go_wp2_with fail
  go_loopw [16] (fun iv wr => ∃ k : Nat, k ≤ s.size ∧ iv = .int .i64 (k : Int) ∧ LwR w s.data.toList k wr) (fun iv _ => s.size - (intOf iv).toNat)
  case atStart => exact ⟨0, Nat.zero_le _, rfl, HST.out⟩
  case round =>
    clear hc
    obtain ⟨k, hk, rfl, hR⟩ := hrel
    by_cases hlt : k < s.size
    · have hkl : k < s.data.toList.length := by rw [HSZ.out]; exact hlt
      obtain ⟨b, hb⟩ : ∃ b, s.data.toList[k]? = some b := ⟨_, List.getElem?_eq_getElem hkl⟩
      have c0 := hR.cell k b hb
      rw [if_neg (by omega)] at c0
      have f0 := hR.free k hkl
      have hb256 : b.toNat < 256 := b.toNat_lt
      have HR := Lib.hid hR
      have HBB := Lib.hid hb
      clear hR hb hkl
      by_cases h1 : 65 ≤ b.toNat
      · have d1 : decide ((65 : Int) ≤ (b.toNat : Int)) = true := by simp; omega
        by_cases h2 : b.toNat ≤ 90
        · have d2 : decide ((b.toNat : Int) ≤ 90) = true := by simp; omega
          have hv : (b.toNat : Int) + 32 = ((lowB b).toNat : Nat) := by unfold lowB; rw [if_pos ⟨h1, h2⟩]; simp; omega
          have HV := Lib.hid hv
          clear hv
          go_wp2_with fail
          exact ⟨⟨k + 1, by omega, by go_num, HR.out.put HBB.out HV.out⟩, by simp [intOf]; omega⟩
        · have d2 : decide ((b.toNat : Int) ≤ 90) = false := by simp; omega
          have HV := Lib.hid (show lowB b = b by unfold lowB; rw [if_neg (by omega)])
          go_wp2_with fail
          exact ⟨⟨k + 1, by omega, by go_num, HR.out.skip HBB.out HV.out⟩, by simp [intOf]; omega⟩
      · have d1 : decide ((65 : Int) ≤ (b.toNat : Int)) = false := by simp; omega
        have HV := Lib.hid (show lowB b = b by unfold lowB; rw [if_neg (by omega)])
        go_wp2_with fail
        exact ⟨⟨k + 1, by omega, by go_num, HR.out.skip HBB.out HV.out⟩, by simp [intOf]; omega⟩
    · obtain rfl : k = s.size := by omega
      have hbk := HBK.out wr hR cap
      have HR := Lib.hid hR
      clear hR
      go_wp2_with fail
      go_ret
      exact ⟨rfl, HR.out.below⟩
theorem lower_bytes (s : ByteArray) (hs : s.size ≤ 9000000000000000000) (w : World) :
    Calls Tryz.prog 153 #[.string s] w fun e w' => e = .returned (.string ⟨(s.data.toList.map lowB).toArray⟩) ∧ Below w.heap.size w w' := by
  have H := Lib.hid (mapped_low s hs w)
  go_enter Tryz.func153, Tryz.ntmps153
  go_wp2_with fail
  refine H.out.mono ?_
  rintro e w' ⟨rfl, hb⟩
  go_wp2_with fail
  go_ret
  exact ⟨rfl, hb⟩

theorem ascii_of {l : List UInt8} (h : l.all (fun b => decide (b.toNat < 128)) = true) : ∀ (j : Nat) (b : UInt8), l[j]? = some b → b.toNat < 128 := fun j b hj => by
  have := List.all_eq_true.1 h b (List.mem_of_getElem? hj)
  simpa using this
theorem long_any (s : ByteArray) (hs : s.size ≤ 9000000000000000000) (w : World) : Calls Tryz.prog 91 #[.string s] w fun e w' => e = .returned (.bool (decide (1048576 < s.size))) ∧ w' = w := by
  by_cases h : 1048576 < s.size
  · have d1 : decide ((1048576 : Int) < (s.size : Int)) = true := by simp; omega
    go_enter Tryz.func91, Tryz.ntmps91
    go_wp2_with fail
    rw [decide_eq_true h]
    go_ret
    exact ⟨rfl, rfl⟩
  · have d1 : decide ((1048576 : Int) < (s.size : Int)) = false := by simp; omega
    go_enter Tryz.func91, Tryz.ntmps91
    go_wp2_with fail
    rw [decide_eq_false h]
    go_ret
    exact ⟨rfl, rfl⟩
set_option maxRecDepth 100000 in
theorem indexFunc_nil (f : Value) (w : World) : Calls Tryz.prog 134 #[.slice none 0 0, f] w fun e w' => e = .returned (.int .i64 (-1)) ∧ w' = w := by
  go_enter Tryz.func134, Tryz.ntmps134
  go_wp2_with fail
  go_loopw [8] (fun iv wr => iv = .int .i64 0 ∧ wr = w) (fun _ _ => 0)
  case atStart => exact ⟨rfl, rfl⟩
  case round =>
    obtain ⟨rfl, rfl⟩ := hrel
    go_wp2_with fail
    go_ret
    exact ⟨rfl, rfl⟩
theorem containsFunc_nil (f : Value) (w : World) : Calls Tryz.prog 110 #[.slice none 0 0, f] w fun e w' => e = .returned (.bool false) ∧ w' = w := by
  have H := Lib.hid (indexFunc_nil f w)
  go_enter Tryz.func110, Tryz.ntmps110
  go_wp2_with fail
  refine H.out.mono ?_
  rintro e w' ⟨rfl, hw⟩
  subst hw
  go_wp2_with fail
  go_ret
  exact ⟨rfl, rfl⟩
abbrev Atr := List UInt8 × List UInt8
def atC (p : Atr) : List Value := [strV p.1, strV p.2]
def attrC (l : List Atr) : List Value := l.flatMap atC
theorem attrC_len (l : List Atr) : (attrC l).length = l.length * 2 := by
  induction l with
  | nil => rfl
  | cons x l ih => rw [attrC, List.flatMap_cons, List.length_append, List.length_cons]; unfold attrC at ih; rw [ih]; show 2 + _ = _; omega
theorem attrC_at (l : List Atr) (i : Nat) (p : Atr) (h : l[i]? = some p) : (attrC l)[2 * i]? = some (strV p.1) ∧ (attrC l)[2 * i + 1]? = some (strV p.2) := by
  induction l generalizing i with
  | nil => simp at h
  | cons y l ih =>
    rw [attrC, List.flatMap_cons]
    cases i with
    | zero => simp at h; subst h; exact ⟨rfl, rfl⟩
    | succ i =>
      obtain ⟨h1, h2⟩ := ih i (by simpa using h)
      constructor
      · rw [List.getElem?_append_right (by show 2 ≤ _; omega)]
        show (attrC l)[2 * (i + 1) - 2]? = _
        rw [show 2 * (i + 1) - 2 = 2 * i by omega]; exact h1
      · rw [List.getElem?_append_right (by show 2 ≤ _; omega)]
        show (attrC l)[2 * (i + 1) + 1 - 2]? = _
        rw [show 2 * (i + 1) + 1 - 2 = 2 * i + 1 by omega]; exact h2
theorem attrC_one (l : List Atr) : ∀ u ∈ attrC l, u.oneCell' = true := by
  intro u hu
  unfold attrC at hu
  rw [List.mem_flatMap] at hu
  obtain ⟨p, _, hp⟩ := hu
  simp only [atC, List.mem_cons, List.not_mem_nil, or_false] at hp
  rcases hp with rfl | rfl <;> rfl
theorem attrC_snoc (l : List Atr) (p : Atr) : attrC (l ++ [p]) = attrC l ++ atC p := by unfold attrC; simp
theorem attr_cells {B : Nat} {w : World} {g n cap : Nat} {l : List Atr} (h : AttrAt B w (.slice (some ⟨g, 0, none⟩) n cap) l) : ∀ j u, (attrC l)[j]? = some u → w.cell? ((⟨g, 0, none⟩ : Addr).add j) = some u := by
  intro j u hu
  have hj : j < l.length * 2 := by rw [← attrC_len]; exact (List.getElem?_eq_some_iff.1 hu).1
  obtain ⟨a, c, e, h'⟩ := h
  rcases h' with rfl | ⟨g', cur, rfl, _, hh, hc⟩
  · simp at hj
  · simp only [Value.slice.injEq, Option.some.injEq, Addr.mk.injEq] at e
    obtain ⟨⟨rfl, _⟩, _, _⟩ := e
    rw [Go.WideShapes.add_plain, Lib.cell_of_heap hh, Nat.zero_add]
    obtain ⟨p, hp⟩ : ∃ p, l[j / 2]? = some p := ⟨_, List.getElem?_eq_getElem (by omega)⟩
    have h1 := attrC_at l (j / 2) p hp
    have h2 := hc (j / 2) p hp
    rcases Nat.mod_two_eq_zero_or_one j with e | e
    · rw [show 2 * (j / 2) = j by omega] at h1 h2
      rw [h1.1] at hu
      rw [h2.1, hu]
    · rw [show 2 * (j / 2) + 1 = j by omega] at h1 h2
      rw [h1.2] at hu
      rw [h2.2, hu]
theorem attr_of_own {B B' : Nat} {w : World} {v : Value} {l : List Atr} (h : w.ownsRow B' 85 2 v l.length (attrC l)) (hB : B ≤ B') : AttrAt B w v l := by
  rcases h.2 with ⟨rfl, e⟩ | ⟨g, cap, cur, rfl, hg, hh, hc1, hc2, hc3, ht⟩
  · exact ⟨none, 0, by rw [e], .inl (List.length_eq_zero_iff.1 e)⟩
  · refine ⟨_, _, rfl, .inr ⟨g, cur, rfl, by omega, hh, fun i p hp => ?_⟩⟩
    obtain ⟨h1, h2⟩ := attrC_at l i p hp
    have hi := (List.getElem?_eq_some_iff.1 hp).1
    have hget : ∀ j, j < l.length * 2 → cur[j]? = (attrC l)[j]? := fun j hj => by
      rw [← ht, List.getElem?_take, if_pos hj, Array.getElem?_toList]
    exact ⟨by rw [hget _ (by omega)]; exact h1, by rw [hget _ (by omega)]; exact h2⟩
theorem infoA : (Tryz.prog.info? 85).map (fun i => (i.zero, i.size, i.bytes)) = some (some (.agg #[.string ⟨#[]⟩, .string ⟨#[]⟩]), 2, 32) := by kernel_rfl
set_option maxRecDepth 100000 in
set_option maxHeartbeats 2000000 in
theorem clone_attr {B : Nat} {w : World} {v : Value} {l : List Atr} (h : AttrAt B w v l) (hl : l.length ≤ 1000) :
    Calls Tryz.prog 92 #[v] w fun e w' => ∃ v', e = .returned v' ∧ w'.ownsRow w.heap.size 85 2 v' l.length (attrC l) ∧ Below w.heap.size w w' := by
  obtain ⟨i0, hi0, hz0, hz1, hz2⟩ := info_parts infoA
  have hq := fun w a n c n' c' => Lib.run_eql_slice_nil (P := Tryz.prog) w 81 85 a n c n' c' Tryz.underlying81
  have h0 := h
  obtain ⟨a, c, rfl, h'⟩ := h
  cases a with
  | none =>
    have hx : l = [] := by
      rcases h' with h' | ⟨g', cur, e, _⟩
      · exact h'
      · cases e
    subst hx
    clear h0 h'
    go_enter Tryz.func92, Tryz.ntmps92
    go_wp2_with fail
    go_ret
    exact ⟨_, rfl, World.ownsRow_nil _ _ _ _, Below.refl _ _⟩
  | some a =>
    have hA := (All.start w).newSlA w.heap.size rfl 85 2 0 [] rfl (by omega)
    have hcell : ∀ j u, (attrC l)[j]? = some u → (w.alloc (.cells ([] : List Value).toArray 85)).cell? (a.add j) = some u := fun j u hu => by
      rcases h' with rfl | ⟨g', cur, e, _⟩
      · simp [attrC] at hu
      · cases e
        exact cell_keep ((Below.refl _ w).alloc (Nat.le_refl _) _) (attr_cells h0 j u hu)
    have HC := Lib.hid hcell
    have HO := Lib.hid (show (w.alloc (.cells ([] : List Value).toArray 85)).ownsRow w.heap.size 85 2 (.slice (some ⟨w.heap.size, 0, none⟩) 0 0) 0 [] from by
      have : Own _ _ _ _ _ _ := hA.head
      obtain ⟨h1, h2⟩ := this
      refine ⟨h1, ?_⟩
      rcases h2 with ⟨e, _⟩ | ⟨g', cap, cur, e, _, rest⟩
      · cases e
      · cases e; exact .inr ⟨w.heap.size, _, cur, rfl, Nat.le_refl _, rest⟩)
    have H1 := Lib.hid (attrC_one l)
    have HL := Lib.hid (attrC_len l)
    generalize attrC l = ys at *
    clear h0 h' hA hcell
    go_enter Tryz.func92, Tryz.ntmps92
    go_wp2_with (at_builtin; refine wpList_append_own _ rfl _ _ 81 rfl w.heap.size 85 i0 _ 2 32 Tryz.underlying81 hi0 hz0 hz1 hz2 rfl (by decide) _ 0 _ rfl HO.out _ l.length _ ys rfl HL.out HC.out H1.out ?c1 ?c2 ?c3 ?_)
    case c1 => unfold maxLen; omega
    case c2 => omega
    case c3 => simp
    intro v' w5 hown5 hgr5 _
    have HW := Lib.hid hown5
    have HB := Lib.hid (show Below w.heap.size w w5 from ((Below.refl _ w).alloc (Nat.le_refl _) _).grown hgr5 (by simp) (fun k hk => by cases hk; exact Nat.le_refl _))
    clear hown5 hgr5
    go_wp2_with fail
    go_ret
    exact ⟨_, rfl, by simpa using HW.out, HB.out⟩
theorem len_text (l : List UInt8) (w : World) (hs : l.length ≤ 100000000) :
    Calls Tryz.prog 61 #[.string ⟨l.toArray⟩] w fun e w' => e = .returned (.int .i64 (Lib.runeCount ⟨l.toArray⟩)) ∧ Below w.heap.size w w' := by
  have hsz0 : (⟨l.toArray⟩ : ByteArray).size = l.length := by show l.toArray.size = _; simp
  have HR := Lib.hid (fun wx => Tryz.utf8_RuneCountInString ⟨l.toArray⟩ wx (by rw [hsz0]; omega))
  go_enter Tryz.func61, Tryz.ntmps61
  go_wp2_with fail
  refine (HR.out _).mono ?_
  rintro e w1 ⟨rfl, pos, rfl⟩
  go_wp2_with fail
  go_ret
  exact ⟨rfl, (Below.refl _ _).alloc (Nat.le_refl _) (.stringIter ⟨l.toArray⟩ pos)⟩
def slGo (s : ByteArray) (a b : Int) : Nat → Nat → Nat → Nat → Nat × Nat
  | 0, _, _, i => (i, s.size)
  | f + 1, pos, n, i => if pos < s.size then (if (n : Int) = b then (if (n : Int) = a then pos else i, pos) else slGo s a b f (pos + (Utf8.decode s pos).2) (n + 1) (if (n : Int) = a then pos else i)) else (i, s.size)
def exL (s : ByteArray) (x : Nat × Nat) : List UInt8 := (s.extract x.1 x.2).data.toList
theorem exL_mk (s : ByteArray) (i j : Nat) : (⟨(exL s (i, j)).toArray⟩ : ByteArray) = s.extract i j := rfl
def sliceF (l : List UInt8) (a b : Int) : List UInt8 :=
  if b ≤ max a 0 then [] else
    exL ⟨(fix l).toArray⟩ (slGo ⟨(fix l).toArray⟩ (max a 0) b (fix l).length 0 0 (fix l).length)
theorem slGo_end (s : ByteArray) (a b : Int) (f pos n i : Nat) (h : ¬ pos < s.size) : slGo s a b f pos n i = (i, s.size) := by
  cases f with
  | zero => rfl
  | succ f => simp [slGo, h]
def SlR (w0 : World) (s : ByteArray) (L : Nat) (a b : Int) (iv jv nv : Value) (wr : World) : Prop :=
  ∃ (pos n i f : Nat), slGo s a b f pos n i = slGo s a b L 0 0 L ∧ s.size ≤ pos + f ∧ iv = .int .i64 (i : Int) ∧ jv = .int .i64 (L : Int) ∧ nv = .int .i64 (n : Int) ∧ wr.heap[w0.heap.size]? = some (.stringIter s pos) ∧ Below w0.heap.size w0 wr ∧ i ≤ s.size ∧ n ≤ pos ∧ ((n : Int) ≤ a ∨ i ≤ pos) ∧ (n : Int) ≤ b
set_option maxHeartbeats 4000000 in
set_option maxRecDepth 1000000 in
theorem slice_any (l : List UInt8) (a b : Int) (w : World) (hs : l.length ≤ 20000000) (hT : Laid w) :
    Calls Tryz.prog 66 #[.string ⟨l.toArray⟩, .int .i64 a, .int .i64 b] w fun e w' => e = .returned (.string ⟨(sliceF l a b).toArray⟩) ∧ Below w.heap.size w w' := by
  unfold sliceF
  have HV := Lib.hid (repair_any l w (by omega) hT)
  have hfl := fix_len l
  clear hT
  generalize fix l = l' at *
  have hsz : (⟨l'.toArray⟩ : ByteArray).size = l'.length := by show l'.toArray.size = _; simp
  generalize hss : (⟨l'.toArray⟩ : ByteArray) = s at *
  generalize ha : max a 0 = a' at *
  have ha0 : 0 ≤ a' := by omega
  by_cases hab : b ≤ a'
  · have d1 : decide (b ≤ a') = true := by simpa using hab
    go_enter Tryz.func66, Tryz.ntmps66
    go_wp2_with fail
    go_ret
    exact ⟨rfl, Below.refl _ _⟩
  · have d1 : decide (b ≤ a') = false := by simpa using hab
    go_enter Tryz.func66, Tryz.ntmps66
    go_wp2_with fail
    refine HV.out.mono ?_
    rintro e w0 ⟨rfl, hb0⟩
    go_wp2_with fail
    go_loopw [7, 8, 9] (fun iv jv nv wr => SlR w0 s l'.length a' b iv jv nv wr) (fun _ _ _ wr => s.size - wr.iterPos w0.heap.size)
    case atStart =>
      refine ⟨0, 0, l'.length, l'.length, rfl, by omega, rfl, rfl, rfl, ?_, (Below.refl _ w0).alloc (Nat.le_refl _) _, by omega, Nat.le_refl _, .inl (by omega), by omega⟩
      have := World.iter_heap w0 s 0
      simpa using this
    case round =>
      obtain ⟨pos, n, i, f, hgo, hfu, rfl, rfl, rfl, hit, hbw, hi, hn, hst, hnb⟩ := hrel
      by_cases hp : pos < s.size
      · obtain ⟨f, rfl⟩ : ∃ f', f = f' + 1 := ⟨f - 1, by have := width_pos s pos hp; omega⟩
        have hgo2 := hgo
        rw [slGo, if_pos hp] at hgo2
        have Hgo := Lib.hid hgo2
        clear hgo hgo2
        have hnx : ∀ ty, (Instr.next (.pointer (some ⟨w0.heap.size, 0, none⟩)) true ty).run Tryz.prog wr = _ := fun ty => Lib.run_next_any_at wr w0.heap.size s pos ty hit hp
        have hwd := width_pos s pos hp
        have hd1 := decode_le s pos
        have hit2 := Lib.iterAt_heap wr w0.heap.size s pos (pos + (Utf8.decode s pos).2) hit
        have hbw2 := Lib.below_iterAt hbw (k := w0.heap.size) (by omega) s (pos + (Utf8.decode s pos).2)
        by_cases hna : (n : Int) = a'
        · have e1 : ((n : Int) == a') = true := by simpa using hna
          by_cases hnb' : (n : Int) = b
          · omega
          · have e2 : ((n : Int) == b) = false := by simpa using hnb'
            go_wp2_with fail
            refine ⟨⟨pos + (Utf8.decode s pos).2, n + 1, pos, f, by have := Hgo.out; rwa [if_neg hnb', if_pos hna] at this, by omega, rfl, rfl, by rw [← hna]; rfl, hit2, hbw2, by omega, by omega, .inr (by omega), by omega⟩, ?_⟩
            simp only [World.iterPos, hit2, hit]
            omega
        · have e1 : ((n : Int) == a') = false := by simpa using hna
          by_cases hnb' : (n : Int) = b
          · have e2 : ((n : Int) == b) = true := by simpa using hnb'
            have hip : i ≤ pos := by omega
            go_wp2_with fail
            go_ret
            have hg := Hgo.out
            rw [if_pos hnb', if_neg hna] at hg
            (first | rw [← hg] | rw [if_neg (by omega), ← hg])
            exact ⟨by rw [exL_mk]; rfl, hb0.trans (hbw2.mono hb0.size)⟩
          · have e2 : ((n : Int) == b) = false := by simpa using hnb'
            go_wp2_with fail
            refine ⟨⟨pos + (Utf8.decode s pos).2, n + 1, i, f, by have := Hgo.out; rwa [if_neg hnb', if_neg hna] at this, by omega, rfl, rfl, rfl, hit2, hbw2, by omega, by omega, by omega, by omega⟩, ?_⟩
            simp only [World.iterPos, hit2, hit]
            omega
      · have hnx : ∀ ty, (Instr.next (.pointer (some ⟨w0.heap.size, 0, none⟩)) true ty).run Tryz.prog wr = _ := fun ty => Lib.run_next_end_at wr w0.heap.size s pos ty hit hp
        go_wp2_with fail
        go_ret
        rw [slGo_end s a' b f pos n i hp] at hgo
        (first | rw [← hgo] | rw [if_neg (by omega), ← hgo])
        exact ⟨by rw [exL_mk, hsz]; rfl, hb0.trans (hbw.mono hb0.size)⟩

theorem bytes_app (a b : List UInt8) : (⟨a.toArray⟩ : ByteArray) ++ ⟨b.toArray⟩ = ⟨(a ++ b).toArray⟩ := by
  apply ByteArray.ext
  rw [ByteArray.data_append]
  simp
theorem decodeL_at (s : ByteArray) (pos : Nat) : Utf8.decode s pos = Lib.decodeL (s.data.toList.drop pos) := by
  have hsz : s.data.toList.length = s.size := by rw [Array.length_toList]; rfl
  by_cases h : pos ≤ s.size
  · unfold Lib.decodeL
    rw [Lib.decode_at, Lib.decode_at]
    have e : (⟨(s.data.toList.drop pos).toArray⟩ : ByteArray).size = s.size - pos := by
      show (s.data.toList.drop pos).toArray.size = _
      rw [List.size_toArray, List.length_drop, hsz]
    have g : ∀ k, (⟨(s.data.toList.drop pos).toArray⟩ : ByteArray).get! k = s.get! (pos + k) := by
      intro k
      show (s.data.toList.drop pos).toArray[k]! = s.data[pos + k]!
      by_cases hk : pos + k < s.size
      · rw [getElem!_pos _ k (by rw [List.size_toArray, List.length_drop, hsz]; omega), getElem!_pos s.data (pos + k) hk, List.getElem_toArray, List.getElem_drop, Array.getElem_toList]
      · rw [getElem!_neg _ k (by rw [List.size_toArray, List.length_drop, hsz]; omega), getElem!_neg s.data (pos + k) hk]
    rw [e, g, g, g, g, Nat.sub_zero]
    simp only [Nat.add_zero, Nat.zero_add]
  · unfold Lib.decodeL
    rw [List.drop_eq_nil_of_le (by omega), Lib.decode_at, Lib.decode_at]
    have g : ∀ k, s.get! (pos + k) = 0 := by
      intro k
      show s.data[pos + k]! = 0
      rw [getElem!_neg s.data (pos + k) (by show ¬ pos + k < s.size; omega)]
      rfl
    have g0 := g 0
    rw [Nat.add_zero] at g0
    rw [g0, g, g, g, show s.size - pos = 0 by omega]
    rfl
theorem fixFrom_rfix (s : ByteArray) : ∀ (f pos : Nat), s.size ≤ pos + f → fixFrom s f pos = rfix (s.data.toList.drop pos)
  | 0, pos, h => by
    rw [List.drop_eq_nil_of_le (by rw [Array.length_toList]; exact h)]
    rfl
  | f + 1, pos, h => by
    have hsz : s.data.toList.length = s.size := by rw [Array.length_toList]; rfl
    unfold fixFrom
    by_cases hp : pos < s.size
    · have hne : s.data.toList.drop pos ≠ [] := by
        intro e
        have := congrArg List.length e
        rw [List.length_drop, hsz] at this
        simp at this
        omega
      have hw := width_pos s pos hp
      rw [if_pos hp, fixFrom_rfix s f _ (by omega), rfix_step _ hne, decodeL_at, ← List.drop_drop]
      by_cases hb : (Lib.decodeL (s.data.toList.drop pos)).1 = 65533 ∧ (Lib.decodeL (s.data.toList.drop pos)).2 = 1
      · have e0 : szL (s.data.toList.drop pos) = 0 := by unfold szL; rw [if_neg hne, if_pos hb]
        rw [if_pos e0, hb.1, hb.2]
        rfl
      · have e0 : szL (s.data.toList.drop pos) = (Lib.decodeL (s.data.toList.drop pos)).2 := by unfold szL; rw [if_neg hne, if_neg hb]
        have hw' := Lib.decodeL_width (s.data.toList.drop pos)
        rw [if_neg (by omega), Lib.encode_decode _ hne hb, e0]
    · rw [if_neg hp, List.drop_eq_nil_of_le (by omega)]
      rfl
theorem fix_rfix (l : List UInt8) : fix l = rfix l := by
  unfold fix
  by_cases h : Lib.validD l = true
  · rw [if_pos h]; exact ((rfix_iff l).1 h).symm
  · rw [if_neg h, fixFrom_rfix _ _ _ (by show l.toArray.size ≤ _; simp)]
    rfl
/-! ### Points, Join -/
def ptsG : Nat → List UInt8 → List (List UInt8)
  | 0, _ => []
  | f + 1, l => if l = [] then [] else l.take (max (szL l) 1) :: ptsG f (l.drop (max (szL l) 1))
def ptsL (l : List UInt8) : List (List UInt8) := ptsG l.length l
theorem ptsG_fuel : ∀ (n m : Nat) (l : List UInt8), l.length ≤ n → l.length ≤ m → ptsG n l = ptsG m l
  | 0, m, l, hn, _ => by
    have : l = [] := List.eq_nil_of_length_eq_zero (by omega)
    subst this
    cases m <;> simp [ptsG]
  | n + 1, 0, l, _, hm => by
    have : l = [] := List.eq_nil_of_length_eq_zero (by omega)
    subst this
    simp [ptsG]
  | n + 1, m + 1, l, hn, hm => by
    unfold ptsG
    by_cases hne : l = []
    · simp [hne]
    · have hl : 0 < l.length := List.length_pos_iff.2 hne
      rw [if_neg hne, if_neg hne, ptsG_fuel n m _ (by rw [List.length_drop]; omega) (by rw [List.length_drop]; omega)]
theorem ptsL_nil : ptsL [] = [] := rfl
theorem ptsL_step (l : List UInt8) (hne : l ≠ []) : ptsL l = l.take (max (szL l) 1) :: ptsL (l.drop (max (szL l) 1)) := by
  have hl : 0 < l.length := List.length_pos_iff.2 hne
  obtain ⟨n, hn⟩ : ∃ n, l.length = n + 1 := ⟨l.length - 1, by omega⟩
  show ptsG l.length l = _
  rw [hn]
  show (if l = [] then [] else _) = _
  rw [if_neg hne]
  unfold ptsL
  rw [ptsG_fuel n (l.drop (max (szL l) 1)).length _ (by rw [List.length_drop]; omega) (Nat.le_refl _)]
theorem ptsL_len (n : Nat) : ∀ (l : List UInt8), l.length ≤ n → (ptsL l).length ≤ l.length := by
  induction n with
  | zero =>
    intro l h
    have : l = [] := List.eq_nil_of_length_eq_zero (by omega)
    subst this
    simp [ptsL_nil]
  | succ n ih =>
    intro l h
    by_cases hne : l = []
    · subst hne; simp [ptsL_nil]
    · have hl : 0 < l.length := List.length_pos_iff.2 hne
      rw [ptsL_step l hne, List.length_cons]
      have := ih (l.drop (max (szL l) 1)) (by rw [List.length_drop]; omega)
      rw [List.length_drop] at this
      omega
theorem ptsL_join (n : Nat) : ∀ (l : List UInt8), l.length ≤ n → (ptsL l).flatten = l := by
  induction n with
  | zero =>
    intro l h
    have : l = [] := List.eq_nil_of_length_eq_zero (by omega)
    subst this
    rfl
  | succ n ih =>
    intro l h
    by_cases hne : l = []
    · subst hne; rfl
    · have hl : 0 < l.length := List.length_pos_iff.2 hne
      rw [ptsL_step l hne, List.flatten_cons, ih _ (by rw [List.length_drop]; omega), List.take_append_drop]
def joinL (P : List (List UInt8)) (a b : Nat) : List UInt8 := ((P.take b).drop a).flatten
theorem joinL_stop (P : List (List UInt8)) (a b : Nat) (h : b ≤ a ∨ P.length ≤ a) : joinL P a b = [] := by
  unfold joinL
  rw [List.drop_eq_nil_of_le (by rw [List.length_take]; omega)]
  rfl
theorem flat_len : ∀ (P : List (List UInt8)) (k : Nat), (P.take k).flatten.length ≤ P.flatten.length
  | [], k => by simp
  | x :: P, 0 => by simp
  | x :: P, k + 1 => by
    have := flat_len P k
    rw [List.take_succ_cons, List.flatten_cons, List.flatten_cons, List.length_append, List.length_append]
    omega
theorem joinL_len (P : List (List UInt8)) (a b : Nat) : (joinL P a b).length ≤ P.flatten.length := by
  have h1 := flat_len P b
  have : (joinL P a b).length ≤ (P.take b).flatten.length := by
    unfold joinL
    conv => rhs; rw [← List.take_append_drop a (P.take b), List.flatten_append, List.length_append]
    omega
  omega
end Go.Proofs.YtacdbnhnhdlmpaaGreatDoor.W
end
