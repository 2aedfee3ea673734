/- Texts joined: DropA Txt Repl MutA. -/
import Derived.Test.YtfdofkokiaapoaaGreatDoorGv9
import Derived.Test.YtfdofkokiaapoaaGreatDoorGv11
import Derived.Test.YtfdofkokiaapoaaGreatDoorGv8
import Derived.Laws.Cover1
import Derived.Test.YtfdofkokiaapoaaGreatDoorGv10
section
/- The contract of DropAttr; SetAttr and DropAttr of a node that is no element. -/
namespace Go.Proofs.YtfdofkokiaapoaaGreatDoor.W
open Go.RowKit
set_option linter.unusedVariables false
set_option linter.unusedSimpArgs false

theorem all_of_own {B e size n : Nat} {w : World} {v : Value} {xs : List Value} (h : w.ownsRow B e size v n xs) (hB : B ≤ w.heap.size) : All B w [sl e size v n xs] w :=
  ⟨by intro o ho; simp at ho; subst ho; exact own_low h (Nat.zero_le _), by simp, by intro o ho k hk; simp at ho; subst ho; exact (h.lt k hk).1, Below.refl _ _, hB⟩

set_option maxRecDepth 100000 in
set_option maxHeartbeats 8000000 in
theorem dropAttr_el {B R g cap : Nat} {S : Tr} {fv : Value} {w : World} {K d} (h : TAt B R S (.slice (some ⟨g, 0, none⟩) S.slots.length cap) fv w) (hL : Lk S K d) (i : Nat) (n : Nd) (hi : S.at i = some n) (hk : n.kind = 2) (hl : n.attrs.length ≤ 64)
    (name : List UInt8) :
    Calls Tryz.prog 32 #[.pointer (some ⟨R, 0, none⟩), .int .i64 (S.hd i), strV name] w fun e w' => ∃ S' v er l, SetOut w.heap.size S i n name S' v er l ∧ e = .returned (.tuple #[v, .int .i64 er]) ∧
      RcAt w' w.heap.size v l ∧ TAt B R S' (.slice (some ⟨g, 0, none⟩) S'.slots.length cap) fv w' ∧ Chg (fun k => k = g) w w' := by
  have HE := Lib.hid (element_el h hL i n hi hk)
  have HM := Lib.hid (fun wx (hb : Below w.heap.size w wx) => named_any (h.below hb) i n hi name (by omega))
  have HTx := Lib.hid h
  have Hi := Lib.hid hi
  clear h
  unfold strV at *
  have H2 := Lib.hid (fun wx (hb : Below w.heap.size w wx) => nd_cell (HTx.out.below hb) Hi.out 2 (by omega))
  simp only [ndC, List.getElem?_cons_succ, List.getElem?_cons_zero] at H2
  obtain ⟨va, vc, hva, hvx⟩ := HTx.out.attrs i n (at_slot hi)
  rw [hva] at H2
  have HVx := Lib.hid hvx
  clear hi hL hvx
  have hcases := nmOf_cases n.attrs name
  generalize hr : nmOf n.attrs name = r at *
  clear hr
  go_enter Tryz.func32, Tryz.ntmps32
  go_wp2_with fail
  refine HE.out.mono ?_
  rintro e w1 ⟨rfl, hb1⟩
  go_wp2_with fail
  refine (HM.out _ hb1).mono ?_
  rintro e w4 ⟨rfl, hb4⟩
  have hB4 := bthen hb1 hb4
  clear HE HM hb1 hb4
  have c2 := H2.out _ hB4
  rcases hcases with rfl | ⟨k, y, rfl, hy⟩
  · go_wp2_with fail
    go_ret2
    exact ⟨S, _, 0, [], .no 0, rfl, World.ownsRow_nil _ _ _ _, HTx.out.below hB4, Chg.of_below hB4⟩
  · have d1 : decide ((k : Int) < 0) = false := by simp
    have hkl := (List.getElem?_eq_some_iff.1 hy).1
    obtain ⟨ga, hga⟩ : ∃ ga, va = some ⟨ga, 0, none⟩ := by
      rcases HVx.out with e | ⟨ga, cur, e, _⟩
      · rw [e] at hkl; simp at hkl
      · exact ⟨ga, e⟩
    subst hga
    have q1 : w4.cell? ⟨ga, k * 2 + 1, none⟩ = some (.string ⟨y.2.toArray⟩) := by
      have h2 := HTx.out.below hB4
      have h3 := h2.attrs i n (at_slot Hi.out)
      rw [hva] at h3
      have := attr_cells h3 (2 * k + 1) _ (attrC_at n.attrs k y hy).2
      rw [Go.WideShapes.add_plain, Nat.zero_add] at this
      rw [show k * 2 + 1 = 2 * k + 1 by omega]
      exact this
    go_upto_region 8 with fail
    clear q1
    have k6 : Blk (w4.alloc (.cells #[.int .i64 3, .int .i64 (S.hd i), .int .i64 0, .int .i64 0, .int .i64 0, .int .i64 0, .string ⟨name.toArray⟩, .string ⟨y.2.toArray⟩, .bool true, .int .i64 0, .int .i64 0] 86)) w4.heap.size [.int .i64 3, .int .i64 (S.hd i), .int .i64 0, .int .i64 0, .int .i64 0, .int .i64 0, .string ⟨name.toArray⟩, .string ⟨y.2.toArray⟩, .bool true, .int .i64 0, .int .i64 0] 86 := Blk.new w4 _ _
    have hB6 : Below w.heap.size w (w4.alloc (.cells #[.int .i64 3, .int .i64 (S.hd i), .int .i64 0, .int .i64 0, .int .i64 0, .int .i64 0, .string ⟨name.toArray⟩, .string ⟨y.2.toArray⟩, .bool true, .int .i64 0, .int .i64 0] 86)) := hB4.alloc hB4.size _
    have hr6 : w.heap.size ≤ w4.heap.size := hB4.size
    generalize hrb : w4.heap.size = rb at *
    generalize w4.alloc (.cells #[.int .i64 3, .int .i64 (S.hd i), .int .i64 0, .int .i64 0, .int .i64 0, .int .i64 0, .string ⟨name.toArray⟩, .string ⟨y.2.toArray⟩, .bool true, .int .i64 0, .int .i64 0] 86) = w6 at *
    have hT6 := HTx.out.below hB6
    have c6 := H2.out _ hB6
    have HCl := Lib.hid (clone_attr (hva ▸ hT6.attrs i n (at_slot Hi.out)) (by omega))
    have HT6 := Lib.hid hT6
    have HK6 := Lib.hid k6
    clear hT6 k6 c2
    go_wp2_with fail
    refine HCl.out.mono ?_
    rintro e w7 ⟨v1, rfl, hown7, hb7⟩
    obtain ⟨g1, cap1, rfl⟩ : ∃ g1 cap1, v1 = .slice (some ⟨g1, 0, none⟩) n.attrs.length cap1 := by
      rcases hown7.2 with ⟨_, e⟩ | ⟨g1, cap', cur, e, _⟩
      · omega
      · exact ⟨g1, _, e⟩
    have HD := Lib.hid (delete_attr (rest := []) (all_of_own hown7 hb7.size) k hkl (by omega))
    clear HCl c6 hown7
    go_wp2_with fail
    refine HD.out.mono ?_
    rintro e w8 ⟨rfl, hA8⟩
    have hb8 : Below w6.heap.size w7 w8 := hA8.below
    have hb68 := hb7.trans hb8
    have hB8 := bthen hB6 hb68
    have hT8 := HTx.out.below hB8
    have c8 := H2.out _ hB8
    have z8 := nd_free hT8 (i * 10 + 1 + 2)
    have HO8 := Lib.hid (all_own hA8)
    have HT8 := Lib.hid hT8
    have HK8 := Lib.hid (HK6.out.below hb68)
    clear hT8 HD hA8
    go_upto_region 9 with fail
    have hrow10 := own_setB HT8.out.slots (i * 10 + 1 + 2) (.slice (some ⟨g1, 0, none⟩) (n.attrs.length - 1) cap1)
    have hch10 : Chg (fun k => k = g) w (w8.setCell ⟨g, i * 10 + 1 + 2, none⟩ (.slice (some ⟨g1, 0, none⟩) (n.attrs.length - 1) cap1)) := (Chg.of_below (F := fun k => k = g) hB8).setCell ⟨g, i * 10 + 1 + 2, none⟩ (fun _ => (rfl : g = g)) _
    have hg0 := (HTx.out.slots.lt g rfl).2
    have hg1 := (HO8.out.lt g1 rfl).1
    have hsz6 := hB6.size
    have hgg1 : g1 ≠ g := by omega
    have hown10 := own_kB (w' := w8.setCell ⟨g, i * 10 + 1 + 2, none⟩ (.slice (some ⟨g1, 0, none⟩) (n.attrs.length - 1) cap1)) HO8.out (fun g' hg' => Below.heap_setCell _ _ _ _ (by cases hg'; exact hgg1))
    have hfr : ∀ k', (Value.slice (some ⟨g1, 0, none⟩) (n.attrs.length - 1) cap1).ownBlock = some k' → w.heap.size ≤ k' := fun k' hk' => Nat.le_trans hB6.size (HO8.out.lt k' hk').1
    have hk10 := HK8.out.setOther ⟨g, i * 10 + 1 + 2, none⟩ (by show rb ≠ g; omega) (.slice (some ⟨g1, 0, none⟩) (n.attrs.length - 1) cap1)
    have hs10 : w6.heap.size ≤ (w8.setCell ⟨g, i * 10 + 1 + 2, none⟩ (.slice (some ⟨g1, 0, none⟩) (n.attrs.length - 1) cap1)).heap.size := by simp [World.setCell]; exact hb68.size
    have hle : (n.attrs.eraseIdx k).length = n.attrs.length - 1 := by rw [List.length_eraseIdx, if_pos hkl]
    have HT10 := Lib.hid (HTx.out.setAv Hi.out (.slice (some ⟨g1, 0, none⟩) (n.attrs.length - 1) cap1) (n.attrs.eraseIdx k) hch10 hrow10 (attr_of_own (B := B) (by rw [hle]; exact hown10) (by have := HTx.out.base; have := HTx.out.blk.lt; omega)))
    have HCh10 := Lib.hid hch10
    clear hrow10 hch10 hown10 HT8 HO8 HK8 c8 z8
    generalize w8.setCell ⟨g, i * 10 + 1 + 2, none⟩ (.slice (some ⟨g1, 0, none⟩) (n.attrs.length - 1) cap1) = w10 at *
    have b0 := hk10.cell 0
    have b1 := hk10.cell 1
    have b2 := hk10.cell 2
    have b3 := hk10.cell 3
    have b4 := hk10.cell 4
    have b5 := hk10.cell 5
    have b6 := hk10.cell 6
    have b7 := hk10.cell 7
    have b8 := hk10.cell 8
    have b9 := hk10.cell 9
    have b10 := hk10.cell 10
    simp only [List.getElem?_cons_succ, List.getElem?_cons_zero] at b0 b1 b2 b3 b4 b5 b6 b7 b8 b9 b10
    go_wp2_with fail
    go_ret2
    refine ⟨_, _, 0, _, .yes _ (.slice (some ⟨g1, 0, none⟩) (n.attrs.length - 1) cap1) (n.attrs.eraseIdx k) y.2 true (by omega) hfr, rfl, ?_, HT10.out.below ((Below.refl _ w10).alloc (Nat.le_refl _) _), HCh10.out.alloc _⟩
    exact rc_new w10 _ (Nat.le_trans hB6.size hs10) rfl

theorem setAttr_no {B R g cap : Nat} {S : Tr} {fv : Value} {w : World} {K d} (h : TAt B R S (.slice (some ⟨g, 0, none⟩) S.slots.length cap) fv w) (hL : Lk S K d) (i : Nat) (n : Nd) (hi : S.at i = some n) (hk : n.kind ≠ 2) (a b : Value) :
    Calls Tryz.prog 31 #[.pointer (some ⟨R, 0, none⟩), .int .i64 (S.hd i), a, b] w fun e w' => e = .returned (.tuple #[.slice none 0 0, .int .i64 10]) ∧ Below w.heap.size w w' := by
  have HE := Lib.hid (element_no h hL i n hi hk)
  clear h hL hi
  go_enter Tryz.func31, Tryz.ntmps31
  go_wp2_with fail
  refine HE.out.mono ?_
  rintro e w1 ⟨rfl, hb1⟩
  go_wp2_with fail
  go_ret2
  exact ⟨rfl, hb1⟩
theorem dropAttr_no {B R g cap : Nat} {S : Tr} {fv : Value} {w : World} {K d} (h : TAt B R S (.slice (some ⟨g, 0, none⟩) S.slots.length cap) fv w) (hL : Lk S K d) (i : Nat) (n : Nd) (hi : S.at i = some n) (hk : n.kind ≠ 2) (a : Value) :
    Calls Tryz.prog 32 #[.pointer (some ⟨R, 0, none⟩), .int .i64 (S.hd i), a] w fun e w' => e = .returned (.tuple #[.slice none 0 0, .int .i64 10]) ∧ Below w.heap.size w w' := by
  have HE := Lib.hid (element_no h hL i n hi hk)
  clear h hL hi
  go_enter Tryz.func32, Tryz.ntmps32
  go_wp2_with fail
  refine HE.out.mono ?_
  rintro e w1 ⟨rfl, hb1⟩
  go_wp2_with fail
  go_ret2
  exact ⟨rfl, hb1⟩
end Go.Proofs.YtfdofkokiaapoaaGreatDoor.W
end
section
/- text.Len and text.Slice. -/
namespace Go.Proofs.YtfdofkokiaapoaaGreatDoor.W
open Go.RowKit
set_option linter.unusedVariables false

theorem len_text (l : List UInt8) (w : World) (hs : l.length ≤ 100000000) :
    Calls Tryz.prog 72 #[.string ⟨l.toArray⟩] w fun e w' => e = .returned (.int .i64 (Lib.runeCount ⟨l.toArray⟩)) ∧ Below w.heap.size w w' := by
  have hsz0 : (⟨l.toArray⟩ : ByteArray).size = l.length := by show l.toArray.size = _; simp
  have HR := Lib.hid (fun wx => Tryz.utf8_RuneCountInString ⟨l.toArray⟩ wx (by rw [hsz0]; omega))
  go_enter Tryz.func72, Tryz.ntmps72
  go_wp2_with fail
  refine (HR.out _).mono ?_
  rintro e w1 ⟨rfl, pos, rfl⟩
  go_wp2_with fail
  go_ret
  exact ⟨rfl, (Below.refl _ _).alloc (Nat.le_refl _) (.stringIter ⟨l.toArray⟩ pos)⟩

theorem runeCount_len (l : List UInt8) : Lib.runeCount ⟨l.toArray⟩ ≤ l.length := by
  have := Lib.runeCountFrom_le ⟨l.toArray⟩ (⟨l.toArray⟩ : ByteArray).size 0
  have hsz0 : (⟨l.toArray⟩ : ByteArray).size = l.length := by show l.toArray.size = _; simp
  unfold Lib.runeCount
  omega

/-- where text.Slice cuts -/
def slGo (s : ByteArray) (a b : Int) : Nat → Nat → Nat → Nat → Nat × Nat
  | 0, _, _, i => (i, s.size)
  | f + 1, pos, n, i => if pos < s.size then (if (n : Int) = b then (if (n : Int) = a then pos else i, pos) else slGo s a b f (pos + (Utf8.decode s pos).2) (n + 1) (if (n : Int) = a then pos else i)) else (i, s.size)
def exL (s : ByteArray) (x : Nat × Nat) : List UInt8 := (s.extract x.1 x.2).data.toList
theorem exL_mk (s : ByteArray) (i j : Nat) : (⟨(exL s (i, j)).toArray⟩ : ByteArray) = s.extract i j := rfl
def sliceF (l : List UInt8) (a b : Int) : List UInt8 :=
  if b ≤ max a 0 then [] else
    exL ⟨(fix l).toArray⟩ (slGo ⟨(fix l).toArray⟩ (max a 0) b (fix l).length 0 0 (fix l).length)
theorem slGo_end (s : ByteArray) (a b : Int) (f pos n i : Nat) (h : ¬ pos < s.size) : slGo s a b f pos n i = (i, s.size) := by
  cases f with
  | zero => rfl
  | succ f => simp [slGo, h]

def SlR (w0 : World) (s : ByteArray) (L : Nat) (a b : Int) (iv jv nv : Value) (wr : World) : Prop :=
  ∃ (pos n i f : Nat), slGo s a b f pos n i = slGo s a b L 0 0 L ∧ s.size ≤ pos + f ∧ iv = .int .i64 (i : Int) ∧ jv = .int .i64 (L : Int) ∧ nv = .int .i64 (n : Int) ∧ wr.heap[w0.heap.size]? = some (.stringIter s pos) ∧ Below w0.heap.size w0 wr ∧ i ≤ s.size ∧ n ≤ pos ∧ ((n : Int) ≤ a ∨ i ≤ pos) ∧ (n : Int) ≤ b

theorem extract_t (s : ByteArray) (i j : Nat) : ∃ t : List UInt8, s.extract i j = ⟨t.toArray⟩ ∧ t.length ≤ s.size :=
  ⟨(s.extract i j).data.toList, rfl, by
    show (s.extract i j).size ≤ s.size
    rw [ByteArray.size_extract]
    omega⟩

set_option maxHeartbeats 4000000 in
set_option maxRecDepth 1000000 in
theorem slice_any (l : List UInt8) (a b : Int) (w : World) (hs : l.length ≤ 20000000) (hT : Laid w) :
    Calls Tryz.prog 73 #[.string ⟨l.toArray⟩, .int .i64 a, .int .i64 b] w fun e w' => e = .returned (.string ⟨(sliceF l a b).toArray⟩) ∧ Below w.heap.size w w' := by
  unfold sliceF
  have HV := Lib.hid (repair_any l w (by omega) hT)
  have hfl := fix_len l
  clear hT
  generalize fix l = l' at *
  have hsz : (⟨l'.toArray⟩ : ByteArray).size = l'.length := by show l'.toArray.size = _; simp
  generalize hss : (⟨l'.toArray⟩ : ByteArray) = s at *
  generalize ha : max a 0 = a' at *
  have ha0 : 0 ≤ a' := by omega
  by_cases hab : b ≤ a'
  · have d1 : decide (b ≤ a') = true := by simpa using hab
    go_enter Tryz.func73, Tryz.ntmps73
    go_wp2_with fail
    go_ret
    exact ⟨rfl, Below.refl _ _⟩
  · have d1 : decide (b ≤ a') = false := by simpa using hab
    go_enter Tryz.func73, Tryz.ntmps73
    go_wp2_with fail
    refine HV.out.mono ?_
    rintro e w0 ⟨rfl, hb0⟩
    go_wp2_with fail
    go_loopw [7, 8, 9] (fun iv jv nv wr => SlR w0 s l'.length a' b iv jv nv wr) (fun _ _ _ wr => s.size - wr.iterPos w0.heap.size)
    case atStart =>
      refine ⟨0, 0, l'.length, l'.length, rfl, by omega, rfl, rfl, rfl, ?_, (Below.refl _ w0).alloc (Nat.le_refl _) _, by omega, Nat.le_refl _, .inl (by omega), by omega⟩
      have := World.iter_heap w0 s 0
      simpa using this
    case round =>
      obtain ⟨pos, n, i, f, hgo, hfu, rfl, rfl, rfl, hit, hbw, hi, hn, hst, hnb⟩ := hrel
      by_cases hp : pos < s.size
      · obtain ⟨f, rfl⟩ : ∃ f', f = f' + 1 := ⟨f - 1, by have := width_pos s pos hp; omega⟩
        have hgo2 := hgo
        rw [slGo, if_pos hp] at hgo2
        have Hgo := Lib.hid hgo2
        clear hgo hgo2
        have hnx : ∀ ty, (Instr.next (.pointer (some ⟨w0.heap.size, 0, none⟩)) true ty).run Tryz.prog wr = _ := fun ty => Lib.run_next_any_at wr w0.heap.size s pos ty hit hp
        have hwd := width_pos s pos hp
        have hd1 := decode_le s pos
        have hit2 := Lib.iterAt_heap wr w0.heap.size s pos (pos + (Utf8.decode s pos).2) hit
        have hbw2 := Lib.below_iterAt hbw (k := w0.heap.size) (by omega) s (pos + (Utf8.decode s pos).2)
        by_cases hna : (n : Int) = a'
        · have e1 : ((n : Int) == a') = true := by simpa using hna
          by_cases hnb' : (n : Int) = b
          · omega
          · have e2 : ((n : Int) == b) = false := by simpa using hnb'
            go_wp2_with fail
            refine ⟨⟨pos + (Utf8.decode s pos).2, n + 1, pos, f, by have := Hgo.out; rwa [if_neg hnb', if_pos hna] at this, by omega, rfl, rfl, by rw [← hna]; rfl, hit2, hbw2, by omega, by omega, .inr (by omega), by omega⟩, ?_⟩
            simp only [World.iterPos, hit2, hit]
            omega
        · have e1 : ((n : Int) == a') = false := by simpa using hna
          by_cases hnb' : (n : Int) = b
          · have e2 : ((n : Int) == b) = true := by simpa using hnb'
            have hip : i ≤ pos := by omega
            go_wp2_with fail
            go_ret
            have hg := Hgo.out
            rw [if_pos hnb', if_neg hna] at hg
            (first | rw [← hg] | rw [if_neg (by omega), ← hg])
            exact ⟨by rw [exL_mk]; rfl, hb0.trans (hbw2.mono hb0.size)⟩
          · have e2 : ((n : Int) == b) = false := by simpa using hnb'
            go_wp2_with fail
            refine ⟨⟨pos + (Utf8.decode s pos).2, n + 1, i, f, by have := Hgo.out; rwa [if_neg hnb', if_neg hna] at this, by omega, rfl, rfl, rfl, hit2, hbw2, by omega, by omega, by omega, by omega⟩, ?_⟩
            simp only [World.iterPos, hit2, hit]
            omega
      · have hnx : ∀ ty, (Instr.next (.pointer (some ⟨w0.heap.size, 0, none⟩)) true ty).run Tryz.prog wr = _ := fun ty => Lib.run_next_end_at wr w0.heap.size s pos ty hit hp
        go_wp2_with fail
        go_ret
        rw [slGo_end s a' b f pos n i hp] at hgo
        (first | rw [← hgo] | rw [if_neg (by omega), ← hgo])
        exact ⟨by rw [exL_mk, hsz]; rfl, hb0.trans (hbw.mono hb0.size)⟩
theorem sliceF_len (l : List UInt8) (a b : Int) : (sliceF l a b).length ≤ 4 * l.length := by
  have h := fix_len l
  unfold sliceF
  split
  · simp
  · generalize slGo _ _ _ _ _ _ _ = x
    have hsz : (⟨(fix l).toArray⟩ : ByteArray).size = (fix l).length := by show (fix l).toArray.size = _; simp
    show ((⟨(fix l).toArray⟩ : ByteArray).extract x.1 x.2).size ≤ _
    rw [ByteArray.size_extract, hsz]
    omega
end Go.Proofs.YtfdofkokiaapoaaGreatDoor.W
end
section
/- The contract of Replace. -/
namespace Go.Proofs.YtfdofkokiaapoaaGreatDoor.W
open Go.RowKit
set_option linter.unusedVariables false
set_option linter.unusedSimpArgs false

/-- what Replace answers -/
inductive RepOut (S : Tr) (i : Nat) (n : Nd) : Tr → Value → Int → List (List Value) → Prop
  | no (e : Int) : RepOut S i n S (.slice none 0 0) e []
  | yes (v : Value) (data : List UInt8) (ix cnt sz : Int) (hl : data.length ≤ 1048576) : RepOut S i n (S.put i { n with data := data }) v 0 [recC 4 (S.hd i) 0 0 0 ix [] n.data false cnt sz]

theorem bytes_app (a b : List UInt8) : (⟨a.toArray⟩ : ByteArray) ++ ⟨b.toArray⟩ = ⟨(a ++ b).toArray⟩ := by
  apply ByteArray.ext
  rw [ByteArray.data_append]
  simp

set_option maxRecDepth 100000 in
theorem replace_kind {B R g cap : Nat} {S : Tr} {fv : Value} {w : World} {K d} (h : TAt B R S (.slice (some ⟨g, 0, none⟩) S.slots.length cap) fv w) (hL : Lk S K d) (i : Nat) (n : Nd) (hi : S.at i = some n) (hk : n.kind = 1 ∨ n.kind = 2) (a b c : Value) :
    Calls Tryz.prog 33 #[.pointer (some ⟨R, 0, none⟩), .int .i64 (S.hd i), a, b, c] w fun e w' => e = .returned (.tuple #[.slice none 0 0, .int .i64 10]) ∧ Below w.heap.size w w' := by
  have HA := Lib.hid (at_some h (S.hd i) (hd_ok hL hi).1 (hd_ix hL hi))
  have c0 := nd_cell h hi 0 (by omega)
  simp only [ndC, List.getElem?_cons_succ, List.getElem?_cons_zero] at c0
  clear h hL hi
  rcases hk with hk | hk <;> rw [hk] at c0 <;> clear hk
  · go_enter Tryz.func33, Tryz.ntmps33
    go_wp2_with fail
    refine HA.out.mono ?_
    rintro e w2 ⟨rfl, hb2⟩
    have c1 := cell_keep hb2 c0
    go_wp2_with fail
    go_ret2
    exact ⟨rfl, hb2⟩
  · go_enter Tryz.func33, Tryz.ntmps33
    go_wp2_with fail
    refine HA.out.mono ?_
    rintro e w2 ⟨rfl, hb2⟩
    have c1 := cell_keep hb2 c0
    go_wp2_with fail
    go_ret2
    exact ⟨rfl, hb2⟩

set_option maxRecDepth 100000 in
set_option maxHeartbeats 8000000 in
theorem replace_text {B R g cap : Nat} {S : Tr} {fv : Value} {w : World} {K d} (h : TAt B R S (.slice (some ⟨g, 0, none⟩) S.slots.length cap) fv w) (hL : Lk S K d) (i : Nat) (n : Nd) (hi : S.at i = some n) (hk : n.kind = 3) (hl : n.data.length ≤ 1048576)
    (ix : Int) (h0 : 0 ≤ ix) (h1 : ix ≤ 1000) (s : List UInt8) (hs : s.length ≤ 1000) (hT : Laid w) :
    Calls Tryz.prog 33 #[.pointer (some ⟨R, 0, none⟩), .int .i64 (S.hd i), .int .i64 ix, .int .i64 2, strV s] w fun e w' => ∃ S' v er l, RepOut S i n S' v er l ∧ e = .returned (.tuple #[v, .int .i64 er]) ∧
      RcAt w' w.heap.size v l ∧ TAt B R S' (.slice (some ⟨g, 0, none⟩) S'.slots.length cap) fv w' ∧ Chg (fun k => k = g) w w' := by
  have HA := Lib.hid (at_some h (S.hd i) (hd_ok hL hi).1 (hd_ix hL hi))
  have HC := Lib.hid (fun wx (hb : Below w.heap.size w wx) => nd_cell (h.below hb) hi 0 (by omega))
  have HD := Lib.hid (fun wx (hb : Below w.heap.size w wx) => nd_cell (h.below hb) hi 3 (by omega))
  have HF := Lib.hid (fun wx (hb : Below w.heap.size w wx) => nd_free (h.below hb) (i * 10 + 1 + 3))
  simp only [ndC, List.getElem?_cons_succ, List.getElem?_cons_zero] at HC HD
  simp only [hk] at HC
  have HTx := Lib.hid h
  have Hi := Lib.hid hi
  have HLn := Lib.hid (fun wx => len_text n.data wx (by omega))
  have hrc := runeCount_len n.data
  have HRp := Lib.hid (fun wx (hb : Below w.heap.size w wx) => repair_any s wx (by omega) (hT.below hb))
  have hfl := fix_len s
  have HSl := Lib.hid (fun a b wx (hb : Below w.heap.size w wx) => slice_any n.data a b wx (by omega) (hT.below hb))
  have hsl := sliceF_len n.data
  have HLn2 := Lib.hid (fun wx => len_text (fix s) wx (by omega))
  unfold strV at *
  generalize (Lib.runeCount ⟨n.data.toArray⟩) = rc at *
  generalize (Lib.runeCount ⟨(fix s).toArray⟩) = rc2 at *
  generalize fix s = s' at *
  clear h hL hi hT hk
  go_enter Tryz.func33, Tryz.ntmps33
  go_wp2_with fail
  refine HA.out.mono ?_
  rintro e w1 ⟨rfl, hb1⟩
  have c0 := HC.out _ hb1
  have c3 := HD.out _ hb1
  go_wp2_with fail
  refine (HLn.out _).mono ?_
  rintro e w2 ⟨rfl, hb2⟩
  have hB2 := bthen hb1 hb2
  clear c0 c3
  have e0 : decide (ix < 0) = false := by simp; omega
  by_cases hrg : (rc : Int) < ix
  · have e1 : decide ((rc : Int) < ix) = true := by simpa using hrg
    go_wp2_with fail
    go_ret2
    exact ⟨S, _, 2, [], .no 2, rfl, World.ownsRow_nil _ _ _ _, HTx.out.below hB2, Chg.of_below hB2⟩
  · have e1 : decide ((rc : Int) < ix) = false := by simpa using hrg
    go_wp2_with fail
    refine (HRp.out _ hB2).mono ?_
    rintro e w3 ⟨rfl, hb3⟩
    have hB3 := bthen hB2 hb3
    have g3 : g < w3.heap.size := Nat.lt_of_lt_of_le (HTx.out.slots.lt g rfl).2 hB3.size
    have c3 := HD.out _ hB3
    have x3 : ∀ x : InS (StB w3), x.w.cell? ⟨g, i * 10 + 1 + 3, none⟩ = some (.string ⟨n.data.toArray⟩) := fun x => ((bcell x.h).1 _ _ g3).trans c3
    have hne := stb_ne w3
    go_upto_region 11 with fail
    obtain ⟨cnt, hcnt⟩ : ∃ cnt, cnt = min (2 : Int) ((rc : Int) - ix) := ⟨_, rfl⟩
    rw [← hcnt]
    have hc0 : 0 ≤ cnt ∧ cnt ≤ 2 := by omega
    clear hcnt
    have hl1 := hsl 0 ix
    have hl2 := hsl (ix + cnt) (rc : Int)
    generalize ht1 : sliceF n.data 0 ix = t1 at *
    generalize ht2 : sliceF n.data (ix + cnt) (rc : Int) = t2 at *
    refine reg_b (fun k => if k = 0 then .string ⟨t1.toArray⟩ else .string ⟨t2.toArray⟩) 18 (by kernel_rfl) (by kernel_rfl) ?_
    simp only [List.take_succ_cons, List.take_zero, List.drop_succ_cons, List.drop_zero]
    repeat (first
      | (refine m_held (by rfl) (by rfl) (fun K hK => ?_); go_big_quiet_step (fail); refine wpQuiet_nil ?_; refine hK.out _ ?_; clear hK K)
      | (refine m_skip (by rfl) ?_; simp only [Act.put, List.setIfInBounds_toArray, List.set_cons_zero, List.set_cons_succ]))
    refine m_call (.string ⟨t1.toArray⟩) rfl (by rfl) (by rfl) (fun w => by go_simp; exact ⟨rfl, rfl⟩) ?_ ?_
    · intro X wx hx
      refine (HSl.out 0 ix _ (hB3.trans (hx.mono hB3.size))).mono ?_
      rintro e wy ⟨rfl, hb⟩
      exact ⟨by rw [ht1], RowKit.Below.trans hx (hb.mono hx.size)⟩
    simp only [Act.put, List.setIfInBounds_toArray, List.set_cons_zero, List.set_cons_succ]
    repeat (first
      | (refine m_held (by rfl) (by rfl) (fun K hK => ?_); go_big_quiet_step (fail); refine wpQuiet_nil ?_; refine hK.out _ ?_; clear hK K)
      | (refine m_skip (by rfl) ?_; simp only [Act.put, List.setIfInBounds_toArray, List.set_cons_zero, List.set_cons_succ]))
    refine m_call (.string ⟨t2.toArray⟩) rfl (by rfl) (by rfl) (fun w => by go_simp; exact ⟨rfl, rfl⟩) ?_ ?_
    · intro X wx hx
      refine (HSl.out (ix + cnt) (rc : Int) _ (hB3.trans (hx.mono hB3.size))).mono ?_
      rintro e wy ⟨rfl, hb⟩
      exact ⟨by rw [ht2], RowKit.Below.trans hx (hb.mono hx.size)⟩
    simp only [Act.put, List.setIfInBounds_toArray, List.set_cons_zero, List.set_cons_succ]
    repeat (first
      | (refine m_held (by rfl) (by rfl) (fun K hK => ?_); go_big_quiet_step (fail); refine wpQuiet_nil ?_; refine hK.out _ ?_; clear hK K)
      | (refine m_skip (by rfl) ?_; simp only [Act.put, List.setIfInBounds_toArray, List.set_cons_zero, List.set_cons_succ]))
    refine m_nil ?_
    intro w5 h5
    rw [bytes_app, bytes_app]
    generalize hdat : t1 ++ s' ++ t2 = dat at *
    have hdl : dat.length ≤ 20000000 := by rw [← hdat, List.length_append, List.length_append]; omega
    have hsz : (⟨dat.toArray⟩ : ByteArray).size = dat.length := by show dat.toArray.size = _; simp
    have HLg := Lib.hid (fun wx => long_any ⟨dat.toArray⟩ (by rw [hsz]; omega) wx)
    rw [hsz] at HLg
    have hB5 := bthen hB3 h5
    clear hne x3 ht1 ht2 hdat
    by_cases hlong : 1048576 < dat.length
    · rw [decide_eq_true hlong] at HLg
      go_wp2_with fail
      refine (HLg.out _).mono ?_
      rintro e w6 ⟨rfl, hw⟩
      rw [hw]
      clear hw
      go_wp2_with fail
      go_ret2
      exact ⟨S, _, 5, [], .no 5, rfl, World.ownsRow_nil _ _ _ _, HTx.out.below hB5, Chg.of_below hB5⟩
    · rw [decide_eq_false hlong] at HLg
      go_wp2_with fail
      refine (HLg.out _).mono ?_
      rintro e w6 ⟨rfl, hw⟩
      rw [hw]
      clear hw
      have g5 : g < w5.heap.size := Nat.lt_of_lt_of_le (HTx.out.slots.lt g rfl).2 hB5.size
      have c5 := HD.out _ hB5
      have x5 : ∀ x : InS (SomeAll w5.heap.size w5 (fun _ => [])), x.w.cell? ⟨g, i * 10 + 1 + 3, none⟩ = some (.string ⟨n.data.toArray⟩) := fun x => by
        obtain ⟨k, X, hx⟩ := x.h
        exact ((bcell hx.below).1 _ _ g5).trans c5
      have hne' : Nonempty (InS (SomeAll w5.heap.size w5 (fun _ => []))) := ⟨⟨_, 0, [], All.start w5⟩⟩
      go_upto_region 14 with fail
      refine reg_all w5.heap.size w5 (fun _ => []) (fun _ => .int .i64 (rc2 : Int)) (fun _ r => .pointer (some ⟨r, 0, none⟩)) (fun _ => [.int .i64 0, .int .i64 0, .int .i64 0, .int .i64 0, .int .i64 0, .int .i64 0, .string ⟨#[]⟩, .string ⟨#[]⟩, .bool false, .int .i64 0, .int .i64 0]) (fun _ => 86) 11 (by kernel_rfl) (by kernel_rfl) (All.start w5) ?_
      simp only [List.take_succ_cons, List.take_zero, List.drop_succ_cons, List.drop_zero]
      repeat (first
        | (refine m_held (by rfl) (by rfl) (fun K hK => ?_); go_big_quiet_step (fail); refine wpQuiet_nil ?_; refine hK.out _ ?_; clear hK K)
        | (refine m_skip (by rfl) ?_; simp only [Act.put, List.setIfInBounds_toArray, List.set_cons_zero, List.set_cons_succ]))
      refine m_call (.int .i64 (rc2 : Int)) rfl (by rfl) (by rfl) (fun w => by go_simp; exact ⟨rfl, rfl⟩) ?_ ?_
      · intro X wx hx
        refine (HLn2.out _).mono ?_
        rintro e wy ⟨rfl, hb⟩
        exact ⟨rfl, All.still hx hb⟩
      simp only [Act.put, List.setIfInBounds_toArray, List.set_cons_zero, List.set_cons_succ]
      repeat (first
        | (refine m_held (by rfl) (by rfl) (fun K hK => ?_); go_big_quiet_step (fail); refine wpQuiet_nil ?_; refine hK.out _ ?_; clear hK K)
        | (refine m_skip (by rfl) ?_; simp only [Act.put, List.setIfInBounds_toArray, List.set_cons_zero, List.set_cons_succ]))
      refine m_made (fun r => .pointer (some ⟨r, 0, none⟩)) [.int .i64 0, .int .i64 0, .int .i64 0, .int .i64 0, .int .i64 0, .int .i64 0, .string ⟨#[]⟩, .string ⟨#[]⟩, .bool false, .int .i64 0, .int .i64 0] 86 rfl rfl rfl (by rfl) (by rfl) (fun w => by go_simp) ?_
      intro r
      simp only [Act.put, List.setIfInBounds_toArray, List.set_cons_zero, List.set_cons_succ]
      refine m_nil ?_
      intro w7 hA7
      simp only [List.cons_append, List.nil_append, List.append_nil] at hA7
      have k7 : Blk w7 r (recC 0 0 0 0 0 0 [] [] false 0 0) 86 := hA7.head
      have hr : w5.heap.size ≤ r := hA7.base _ (List.Mem.head _) r rfl
      have hB7 : Below w5.heap.size w5 w7 := hA7.below
      obtain ⟨⟨q0, q1, q2, q3, q4, q5, q6, q7, q8, q9, q10⟩, zf⟩ := rec_cells k7
      clear hne' x5 c5 hA7
      go_upto_region 15 with fail
      refine rec_put (G := fun wx => Code.wp _ _ _ _ wx) k7 _ _ _ _ _ _ _ _ _ _ _ ?_
      intro w8 k8 hch8
      clear q0 q1 q2 q3 q4 q5 q6 q7 q8 q9 q10 zf
      have hB8 : Below w.heap.size w w8 := (hB5.trans (hB7.mono hB5.size)).trans (hch8.below (Nat.le_trans hB5.size hB7.size) (fun k e => by subst e; exact Nat.le_trans hB5.size hr))
      have c8 := HD.out _ hB8
      have z8 := HF.out _ hB8
      have HK8 := Lib.hid k8
      clear hch8 k7 k8
      go_upto_region 16 with fail
      have hT10 := (HTx.out.below hB8).setF (n' := { n with data := dat }) Hi.out 3 (.string ⟨dat.toArray⟩) (by omega) rfl rfl rfl
      have hch10 : Chg (fun k => k = g) w (w8.setCell ⟨g, i * 10 + 1 + 3, none⟩ (.string ⟨dat.toArray⟩)) := (Chg.of_below (F := fun k => k = g) hB8).setCell ⟨g, i * 10 + 1 + 3, none⟩ (fun _ => (rfl : g = g)) _
      have hk10 := HK8.out.setOther ⟨g, i * 10 + 1 + 3, none⟩ (by show r ≠ g; omega) (.string ⟨dat.toArray⟩)
      have hs10 : w.heap.size ≤ (w8.setCell ⟨g, i * 10 + 1 + 3, none⟩ (.string ⟨dat.toArray⟩)).heap.size := by simp [World.setCell]; exact hB8.size
      have HT10 := Lib.hid hT10
      have HCh10 := Lib.hid hch10
      clear hT10 hch10 HK8 c8 z8
      generalize w8.setCell ⟨g, i * 10 + 1 + 3, none⟩ (.string ⟨dat.toArray⟩) = w10 at *
      have b0 := hk10.cell 0
      have b1 := hk10.cell 1
      have b2 := hk10.cell 2
      have b3 := hk10.cell 3
      have b4 := hk10.cell 4
      have b5 := hk10.cell 5
      have b6 := hk10.cell 6
      have b7 := hk10.cell 7
      have b8 := hk10.cell 8
      have b9 := hk10.cell 9
      have b10 := hk10.cell 10
      simp only [List.getElem?_cons_succ, List.getElem?_cons_zero] at b0 b1 b2 b3 b4 b5 b6 b7 b8 b9 b10
      go_wp2_with fail
      go_ret2
      refine ⟨_, _, 0, _, .yes _ dat ix cnt rc2 (by omega), rfl, ?_, HT10.out.below ((Below.refl _ w10).alloc (Nat.le_refl _) _), HCh10.out.alloc _⟩
      exact rc_new w10 _ hs10 rfl
end Go.Proofs.YtfdofkokiaapoaaGreatDoor.W
end
section
/- The operations of a tree on a small document, as objects that lie apart. -/
namespace Go.Proofs.YtfdofkokiaapoaaGreatDoor.W
open Go.RowKit
set_option linter.unusedVariables false
set_option linter.unusedSimpArgs false

/-- a record that tells of a node of the document -/
def Good (S : Tr) (N : Nat) (r : Rc) : Prop := (∃ i, i ≤ N ∧ r.target = S.hd i) ∧ (r.kind = 1 ∨ r.kind = 2 ∨ r.kind = 3 ∨ r.kind = 4)
/-- what an operation leaves -/
def OpR (B : Nat) (w0 : World) (R : Nat) (S : Tr) (sv fv : Value) (N : Nat) (l : List Ob) (e : Ending) (w' : World) : Prop :=
  ∃ S' K' d' v er rs, e = .returned (.tuple #[v, .int .i64 er]) ∧ Dc S' K' d' N ∧ S'.b = S.b ∧ S'.s = S.s ∧ (∀ r ∈ rs, Good S N r) ∧ rs.length ≤ 2 ∧ All B w0 (rl v rs :: trO R S' sv fv :: l) w'

theorem op_done {B : Nat} {w0 w w' : World} {R g : Nat} {S S' : Tr} {sv fv v : Value} {N : Nat} {l : List Ob} {K' d'} {er : Int} (h : All B w0 (trO R S sv fv :: l) w) (hD : Dc S' K' d' N) (hb : S'.b = S.b) (hs : S'.s = S.s) (hT' : TAt 0 R S' sv fv w') (hc : Chg (fun k => k = g) w w')
    (hsv : sv.ownBlock = some g) (hF : ∀ k, trF R S' sv fv k → trF R S sv fv k ∨ w.heap.size ≤ k) (rs : List Rc) (hrs : RcAt w' w.heap.size v (rs.map encR)) (hg : ∀ r ∈ rs, Good S N r) (hl : rs.length ≤ 2) : OpR B w0 R S sv fv N l (.returned (.tuple #[v, .int .i64 er])) w' := by
  refine ⟨S', K', d', v, er, rs, rfl, hD, hb, hs, hg, hl, ?_⟩
  have hrs' : w'.ownsRow w.heap.size 86 11 v rs.length (rows encR rs) := by
    have := hrs
    unfold RcAt at this
    rwa [rows_flat, List.length_map] at this
  refine h.stepNew (o' := trO R S' sv fv) hT' (own_low hrs' (Nat.zero_le _)) (hc.mono (fun i _ e => by subst e; exact .inr (.inl hsv))) hF (fun k hk => (hrs'.lt k hk).1) (fun k hk hk' => ?_)
  obtain ⟨cur, hcur⟩ := own_ty hrs' hk
  obtain ⟨cur', t, hc', ht⟩ := trF_ty hT' hk'
  rw [hcur] at hc'
  cases hc'
  exact ht rfl

theorem rec_enc (a b c d e f : Int) (n o : List UInt8) (x : Bool) (y z : Int) : recC a b c d e f n o x y z = encR ⟨a, b, c, d, e, f, n, o, x, y, z⟩ := rfl
theorem hd_le {S : Tr} {N i : Nat} (h : S.slots.length = N + 1) {n : Nd} (hi : S.at i = some n) : i ≤ N := by have := at_lt hi; omega

section
variable {B : Nat} {w0 w : World} {R : Nat} {S : Tr} {sv fv : Value} {N : Nat} {l : List Ob} {K : Nat → List Nat} {d : Nat → Nat}

theorem tr_sl (hD : Dc S K d N) (h : All B w0 (trO R S sv fv :: l) w) : ∃ g cap, sv = .slice (some ⟨g, 0, none⟩) S.slots.length cap :=
  slots_some (show TAt 0 R S sv fv w from h.head) (by rw [hD.len]; omega)

theorem op_nil (hD : Dc S K d N) (h : All B w0 (trO R S sv fv :: l) w) {w' : World} (hb : Below w.heap.size w w') (er : Int) : OpR B w0 R S sv fv N l (.returned (.tuple #[.slice none 0 0, .int .i64 er])) w' :=
  ⟨S, K, d, _, er, [], rfl, hD, rfl, rfl, by simp, by simp, (h.still hb).nil _ _⟩

theorem op_insert (hD : Dc S K d N) (h : All B w0 (trO R S sv fv :: l) w) (p c : Nat) (o : Option Nat) (np nc : Nd) (hp : S.at p = some np) (hc : S.at c = some nc) (ho : ∀ b, o = some b → b ∈ K p) :
    Calls Tryz.prog 23 #[.pointer (some ⟨R, 0, none⟩), .int .i64 (S.hd p), .int .i64 (S.hd c), .int .i64 (hO S o)] w (OpR B w0 R S sv fv N l) := by
  obtain ⟨g, cap, rfl⟩ := tr_sl hD h
  have hT : TAt 0 R S _ fv w := h.head
  cases hmay : mayB S K d p c np nc with
  | false =>
    refine (insert_no hT hD.lk p c o np nc hp hc (fun b hb => (hD.lk.kin p b (ho b hb)).2) hmay).mono ?_
    rintro e w' ⟨rfl, hb⟩
    exact op_nil hD h hb 10
  | true =>
    by_cases hdep : d p + hgt K (128 - d c) c ≤ 128
    · refine (insert_ok hT hD.lk p c o np nc hp hc ho hmay hdep).mono ?_
      rintro e w' ⟨S', K', v, l', hout, hL', rfl, hrc, hT', hC⟩
      cases hout with
      | det j h1 h2 h3 h4 h5 =>
        subst h5
        rw [h3.len] at hT'
        exact op_done h (hD.map _ (keeps_link _ _ _ _ _) h3.at_ h3.len h3.b h3.s h3.free h3.root hL') h3.b h3.s hT' hC rfl (fun k hk => .inl (trF_map _ (keeps_link _ _ _ _ _) h3.at_ k hk)) [⟨1, S.hd p, S.hd c, _, _, j, [], [], false, 0, 0⟩] hrc
          (by intro r hr; simp at hr; subst hr; exact ⟨⟨p, hd_le hD.len hp, rfl⟩, .inl rfl⟩) (by simp)
      | att q i j S1 o' h1 h2 h3 h4 h5 h6 h7 =>
        subst h7
        obtain ⟨nq, hnq⟩ := Option.isSome_iff_exists.1 (hD.lk.kin q c (List.mem_of_getElem? h1)).1
        rw [h5.len, h2.len] at hT'
        have hat : ∀ x, S'.at x = (S.at x).map (fun n => linkN S1 (cutK K q i p) p j c x (cutN S (K q) q i c x n)) := fun x => by
          rw [h5.at_, h2.at_]; cases S.at x <;> rfl
        have hk : Keeps (fun x n => linkN S1 (cutK K q i p) p j c x (cutN S (K q) q i c x n)) := fun _ _ => ⟨rfl, rfl, rfl, rfl⟩
        exact op_done h (hD.map _ hk hat (h5.len.trans h2.len) (h5.b.trans h2.b) (h5.s.trans h2.s) (h5.free.trans h2.free) (h5.root.trans h2.root) hL') (h5.b.trans h2.b) (h5.s.trans h2.s) hT' hC rfl (fun k hk' => .inl (trF_map _ hk hat k hk'))
          [⟨2, S.hd q, S.hd c, nc.prev, nc.next, i, [], [], false, 0, 0⟩, ⟨1, S.hd p, S.hd c, _, _, j, [], [], false, 0, 0⟩] hrc
          (by
            intro r hr
            simp at hr
            rcases hr with rfl | rfl
            · exact ⟨⟨q, hd_le hD.len hnq, rfl⟩, .inr (.inl rfl)⟩
            · exact ⟨⟨p, hd_le hD.len hp, rfl⟩, .inl rfl⟩) (by simp)
    · refine (insert_far hT hD.lk p c o np nc hp hc ho hmay (by omega)).mono ?_
      rintro e w' ⟨rfl, hb⟩
      exact op_nil hD h hb 5

theorem op_remove (hD : Dc S K d N) (h : All B w0 (trO R S sv fv :: l) w) (c : Nat) (nc : Nd) (hc : S.at c = some nc) (hc0 : c ≠ 0) :
    Calls Tryz.prog 30 #[.pointer (some ⟨R, 0, none⟩), .int .i64 (S.hd c)] w (OpR B w0 R S sv fv N l) := by
  obtain ⟨g, cap, rfl⟩ := tr_sl hD h
  have hT : TAt 0 R S _ fv w := h.head
  have hk1 : nc.kind ≠ 1 := by rcases hD.el c nc hc0 hc with e | e <;> omega
  by_cases hdt : ∃ q, c ∈ K q
  · obtain ⟨q, hq⟩ := hdt
    obtain ⟨i, hi⟩ := List.mem_iff_getElem?.1 hq
    obtain ⟨nq, hnq⟩ := Option.isSome_iff_exists.1 (hD.lk.kin q c hq).1
    refine (remove_kid hT hD.lk q i c nc hc hk1 hi).mono ?_
    rintro e w' ⟨S', v, h3, rfl, hrc, hT', hC⟩
    rw [h3.len] at hT'
    exact op_done h (hD.map _ (keeps_cut _ _ _ _ _) h3.at_ h3.len h3.b h3.s h3.free h3.root (hD.lk.cut' hi h3)) h3.b h3.s hT' hC rfl (fun k hk => .inl (trF_map _ (keeps_cut _ _ _ _ _) h3.at_ k hk)) [⟨2, S.hd q, S.hd c, nc.prev, nc.next, i, [], [], false, 0, 0⟩] hrc
      (by intro r hr; simp at hr; subst hr; exact ⟨⟨q, hd_le hD.len hnq, rfl⟩, .inr (.inl rfl)⟩) (by simp)
  · refine (remove_top hT hD.lk c nc hc hk1 (fun q hq => hdt ⟨q, hq⟩)).mono ?_
    rintro e w' ⟨rfl, hb⟩
    exact op_nil hD h hb 0

theorem trF_put {i : Nat} {n n' : Nd} (hi : S.at i = some n) {W : Nat} (hn : ∀ k, n'.av.ownBlock = some k → (n.av.ownBlock = some k ∧ (n'.attrs ≠ [] → n.attrs ≠ [])) ∨ W ≤ k) (k : Nat) (h : trF R (S.put i n') sv fv k) : trF R S sv fv k ∨ W ≤ k := by
  rcases h with h | h | h | ⟨x, m, hx, hne, hk⟩
  · exact .inl (.inl h)
  · exact .inl (.inr (.inl h))
  · exact .inl (.inr (.inr (.inl h)))
  · rw [at_put hi] at hx
    by_cases e : x = i
    · subst e
      rw [if_pos rfl] at hx
      cases hx
      rcases hn k hk with ⟨h1, h2⟩ | h1
      · exact .inl (.inr (.inr (.inr ⟨x, n, hi, h2 hne, h1⟩)))
      · exact .inr h1
    · rw [if_neg e] at hx
      exact .inl (.inr (.inr (.inr ⟨x, m, hx, hne, hk⟩)))

theorem op_set_out (hD : Dc S K d N) {g cap : Nat} (h : All B w0 (trO R S (.slice (some ⟨g, 0, none⟩) S.slots.length cap) fv :: l) w) (i : Nat) (n : Nd) (hi : S.at i = some n) (name : List UInt8) {S' : Tr} {v : Value} {er : Int} {l' : List (List Value)} {w' : World}
    (ho : SetOut w.heap.size S i n name S' v er l') (hrc : RcAt w' w.heap.size v l') (hT' : TAt 0 R S' (.slice (some ⟨g, 0, none⟩) S'.slots.length cap) fv w') (hC : Chg (fun k => k = g) w w') : OpR B w0 R S (.slice (some ⟨g, 0, none⟩) S.slots.length cap) fv N l (.returned (.tuple #[v, .int .i64 er])) w' := by
  cases ho with
  | no => exact op_done h hD rfl rfl hT' hC rfl (fun k hk => .inl hk) [] hrc (by simp) (by simp)
  | yes _ av la old had hl hfr =>
    have hlen : (S.put i { n with av := av, attrs := la }).slots.length = S.slots.length := put_len _ _ _
    rw [hlen] at hT'
    exact op_done h (hD.put (n' := { n with av := av, attrs := la }) hi rfl rfl rfl rfl rfl rfl hl (hD.sz i n hi).2) rfl rfl hT' hC rfl (fun k hk => trF_put (n' := { n with av := av, attrs := la }) hi (fun k hk => .inr (hfr k hk)) k hk) [⟨3, S.hd i, 0, 0, 0, 0, name, old, had, 0, 0⟩] hrc
      (by intro r hr; simp at hr; subst hr; exact ⟨⟨i, hd_le hD.len hi, rfl⟩, .inr (.inr (.inl rfl))⟩) (by simp)

theorem op_setAttr (hD : Dc S K d N) (h : All B w0 (trO R S sv fv :: l) w) (hT0 : Laid w) (i : Nat) (n : Nd) (hi : S.at i = some n) (hi0 : i ≠ 0) (name val : List UInt8) (hn : AName name) (hv : val.length ≤ 1000) :
    Calls Tryz.prog 31 #[.pointer (some ⟨R, 0, none⟩), .int .i64 (S.hd i), strV name, strV val] w (OpR B w0 R S sv fv N l) := by
  obtain ⟨g, cap, rfl⟩ := tr_sl hD h
  have hT : TAt 0 R S _ fv w := h.head
  rcases hD.el i n hi0 hi with hk | hk
  · refine (setAttr_el hT hD.lk i n hi hk (hD.sz i n hi).1 name val hn hv hT0).mono ?_
    rintro e w' ⟨S', v, er, l', ho, rfl, hrc, hT', hC⟩
    exact op_set_out hD h i n hi name ho hrc hT' hC
  · refine (setAttr_no hT hD.lk i n hi (by omega) _ _).mono ?_
    rintro e w' ⟨rfl, hb⟩
    exact op_nil hD h hb 10
theorem op_dropAttr (hD : Dc S K d N) (h : All B w0 (trO R S sv fv :: l) w) (i : Nat) (n : Nd) (hi : S.at i = some n) (hi0 : i ≠ 0) (name : List UInt8) :
    Calls Tryz.prog 32 #[.pointer (some ⟨R, 0, none⟩), .int .i64 (S.hd i), strV name] w (OpR B w0 R S sv fv N l) := by
  obtain ⟨g, cap, rfl⟩ := tr_sl hD h
  have hT : TAt 0 R S _ fv w := h.head
  rcases hD.el i n hi0 hi with hk | hk
  · refine (dropAttr_el hT hD.lk i n hi hk (hD.sz i n hi).1 name).mono ?_
    rintro e w' ⟨S', v, er, l', ho, rfl, hrc, hT', hC⟩
    exact op_set_out hD h i n hi name ho hrc hT' hC
  · refine (dropAttr_no hT hD.lk i n hi (by omega) _).mono ?_
    rintro e w' ⟨rfl, hb⟩
    exact op_nil hD h hb 10
theorem op_replace (hD : Dc S K d N) (h : All B w0 (trO R S sv fv :: l) w) (hT0 : Laid w) (i : Nat) (n : Nd) (hi : S.at i = some n) (hi0 : i ≠ 0) (ix : Int) (h0 : 0 ≤ ix) (h1 : ix ≤ 1000) (s : List UInt8) (hs : s.length ≤ 1000) :
    Calls Tryz.prog 33 #[.pointer (some ⟨R, 0, none⟩), .int .i64 (S.hd i), .int .i64 ix, .int .i64 2, strV s] w (OpR B w0 R S sv fv N l) := by
  obtain ⟨g, cap, rfl⟩ := tr_sl hD h
  have hT : TAt 0 R S _ fv w := h.head
  rcases hD.el i n hi0 hi with hk | hk
  · refine (replace_kind hT hD.lk i n hi (.inr hk) _ _ _).mono ?_
    rintro e w' ⟨rfl, hb⟩
    exact op_nil hD h hb 10
  · refine (replace_text hT hD.lk i n hi hk (hD.sz i n hi).2 ix h0 h1 s hs hT0).mono ?_
    rintro e w' ⟨S', v, er, l', ho, rfl, hrc, hT', hC⟩
    cases ho with
    | no => exact op_done h hD rfl rfl hT' hC rfl (fun k hk => .inl hk) [] hrc (by simp) (by simp)
    | yes _ dat ix cnt sz hl =>
      have hlen : (S.put i { n with data := dat }).slots.length = S.slots.length := put_len _ _ _
      rw [hlen] at hT'
      exact op_done h (hD.put (n' := { n with data := dat }) hi rfl rfl rfl rfl rfl rfl (hD.sz i n hi).1 hl) rfl rfl hT' hC rfl (fun k hk => trF_put (n' := { n with data := dat }) hi (fun k hk => .inl ⟨hk, id⟩) k hk) [⟨4, S.hd i, 0, 0, 0, ix, [], n.data, false, cnt, sz⟩] hrc
        (by intro r hr; simp at hr; subst hr; exact ⟨⟨i, hd_le hD.len hi, rfl⟩, .inr (.inr (.inr rfl))⟩) (by simp)
end
end Go.Proofs.YtfdofkokiaapoaaGreatDoor.W
end
