/- The arena of numbers: the contracts of Drop, and of Add where a slot is free. -/
import Derived.Test.YtabmmampgmcibaaArenaI
import Derived.Deep.RegionLaw
namespace Go.Proofs.Ytabmmampgmcibaa.W
open Go.RowKit
set_option linter.unusedVariables false

theorem drop_none {w : World} {g : Nat} {A : Ar Int} {sv fv : Value} (h : AtI w g A sv fv) (hd : Int) (h1 : -9223372036854775808 ≤ hd) (h2 : hd ≤ 9223372036854775807) (hl : A.slots.length ≤ 2147483647) (hk : A.look hd = none) :
    Calls Try.prog 20 #[.pointer (some ⟨g, 0, none⟩), .int .i64 hd] w fun e w' => e = .returned (.bool false) ∧ Below w.heap.size w w' := by
  have HF := Lib.hid (find_none h hd h1 h2 hl hk)
  clear h hk
  go_enter Try.func20, Try.ntmps20
  go_wp2_with (go_at_call 43; refine HF.out.mono ?_; rintro e w2 ⟨rfl, hb2⟩)
  go_ret
  exact ⟨rfl, hb2⟩

/-- an arena whose slot k is emptied -/
def Ar.gone {α : Type} (z : α) (A : Ar α) (k : Nat) : Ar α := ⟨A.b, A.s, A.slots.set k (false, z), A.free ++ [k], A.live - 1⟩

theorem fcells_append (l : List Nat) (k : Nat) : fcells (l ++ [k]) = fcells l ++ [.int .i64 (k : Int)] := by simp [fcells]

/-- a slot written over -/
theorem AtI.wrote {w : World} {g sg cap : Nat} {A : Ar Int} {fv : Value} (h : AtI w g A (.slice (some ⟨sg, 0, none⟩) A.slots.length cap) fv) (k : Nat) (u : Bool) (v : Int) :
    AtI ((w.setCell ⟨sg, k * 2, none⟩ (.bool u)).setCell ⟨sg, k * 2 + 1, none⟩ (.int .i64 v)) g { A with slots := A.slots.set k (u, v) } (.slice (some ⟨sg, 0, none⟩) A.slots.length cap) fv := by
  have hne : g ≠ sg := by have := h.d1; simpa [Value.ownBlock, eq_comm] using this
  refine ⟨(h.blk.setOther _ hne _).setOther _ hne _, ?_, own_setOther (own_setOther h.free _ (h.d3 sg rfl) _) _ (h.d3 sg rfl) _, h.d1, h.d2, h.d3⟩
  have := own_set (own_set h.slots (k * 2) (.bool u)) (k * 2 + 1) (.int .i64 v)
  rw [← scells_put] at this
  simpa using this

set_option maxRecDepth 100000 in
theorem drop_some {w : World} {g : Nat} {A : Ar Int} {sv fv : Value} (h : AtI w g A sv fv) (hd : Int) (h1 : -9223372036854775808 ≤ hd) (h2 : hd ≤ 9223372036854775807) (hl : A.slots.length ≤ 2147483647) (hfl : A.free.length < 2147483647)
    (hl1 : -2147483647 ≤ A.live) (hl2 : A.live ≤ 2147483647) {k : Nat} (hk : A.look hd = some k) :
    Calls Try.prog 20 #[.pointer (some ⟨g, 0, none⟩), .int .i64 hd] w fun e w' => ∃ fv', e = .returned (.bool true) ∧ AtI w' g (A.gone 0 k) sv fv' ∧ Chg (Ft g sv fv) w w' ∧ ∀ k, fv'.ownBlock = some k → fv.ownBlock = some k ∨ w.heap.size ≤ k := by
  obtain ⟨hi1, hkl, v0, hv⟩ := look_some hk
  obtain ⟨sg, cap, rfl, hc⟩ := own_some h.slots (by omega)
  have HF := Lib.hid (find_some h hd h1 h2 hl hk)
  have I := fun W => index_any A.b A.s hd W h1 h2
  rw [hi1] at I
  have HI := Lib.hid I
  clear I hi1
  obtain ⟨t0, t1⟩ := scells_used _ _ _ _ hv
  have u1 := h.slots.cellAt (k * 2) (by omega)
  rw [t0] at u1
  have u2 := h.slots.cellAt (k * 2 + 1) (by omega)
  rw [t1] at u2
  have u3 := h.slots.frozenAt (k * 2)
  have u4 := h.slots.frozenAt (k * 2 + 1)
  have hsl1 := own_lt h.slots (k := sg) rfl
  have HV := Lib.hid hv
  clear hk hv hc t0 t1
  go_enter Try.func20, Try.ntmps20
  go_wp2_with (go_at_call 43; refine HF.out.mono ?_; rintro e w2 ⟨rfl, hb2⟩; (obtain ⟨hc, hf⟩ := bcell hb2))
  have hW := (h.below hb2).wrote k false 0
  have hg2 : Chg (Ft g (.slice (some ⟨sg, 0, none⟩) A.slots.length cap) fv) w _ := ((Chg.of_below hb2).setCell ⟨sg, k * 2, none⟩ (fun _ => .inr (.inl rfl)) (.bool false)).setCell ⟨sg, k * 2 + 1, none⟩ (fun _ => .inr (.inl rfl)) (.int .i64 0)
  generalize (w2.setCell ⟨sg, k * 2, none⟩ (.bool false)).setCell ⟨sg, k * 2 + 1, none⟩ (.int .i64 0) = W at hW hg2 ⊢
  clear h hb2 hc hf u1 u2 u3 u4 HF HV
  obtain ⟨hblk, hsl, hfr, d1, d2, d3⟩ := hW
  simp only [] at hblk hsl hfr
  have c0 := hblk.cell 0
  have c1 := hblk.cell 1
  have c3 := hblk.cell 3
  have c4 := hblk.cell 4
  have cf := hblk.free
  simp at c0 c1 c3 c4
  have hlt := hblk.lt
  obtain ⟨i0, hi, hz0, hz1, hz2⟩ := info_parts info3
  obtain ⟨fa, fc, rfl⟩ := own_shape hfr
  go_region_law (first
      | (refine step_append_lies _ (by rfl) _ _ _ (by rfl) 0 3 i0 _ 1 8 Try.underlying30 hi hz0 hz1 hz2 rfl (by omega) (.slice fa A.free.length fc) A.free.length _ (by rfl) ((own_below hfr.drew hb3).alloc _) ⟨w3.heap.size, 0, none⟩ 1 1 [.int .i64 k] (by rfl) (by rfl) (World.news_of_block (cs := #[.int .i64 k]) (t := 3) (fr := (0, 0)) (heap_alloc_new w3 _)) (by simp [Value.oneCell']) (by omega) (by unfold maxLen; omega) (by omega) (Nat.zero_le _) (w3.heap.size + 1) (by simp) ?_; intro fg' fc' w4 hown hgrow hat hlt4; have hb4 : Blk w4 g _ _ := ((Blk.below (w := W.drew) hblk hb3).alloc _).kept (hgrow.block g (by have := hb3.size; simp at this ⊢; omega) (fun e => d2 e.symm)); have c34 := hb4.cell 3; have c44 := hb4.cell 4; have cf4 := hb4.free; simp at c34 c44)
      | (go_simp; go_at_call 16; refine (HI.out _).mono ?_; rintro e w3 ⟨rfl, hb3⟩; have hb33 : Blk w3 g _ _ := Blk.below (w := W.drew) hblk hb3; have c33 := hb33.cell 3; have c30 := hb33.cell 0; have c31 := hb33.cell 1; have hlt3 := hb33.lt; simp at c33 c30 c31))
  all_goals
    have H := Lib.hid hat
    clear hat
    have hgl : g < w3.heap.size := hlt3
    have hne : fg' ≠ g := by rintro rfl; rcases H.out with h | h; exact d2 h; omega
    have hsl4 : Own w4 _ _ _ _ _ := own_kept ((own_below (World.ownsRow.drew hsl) hb3).alloc _) fun k hk => hgrow.block k (by have := own_lt (own_below (World.ownsRow.drew hsl) hb3) hk; simp; omega) (fun e => d3 k hk e.symm)
    have hcg : Chg (Ft g (.slice (some ⟨sg, 0, none⟩) A.slots.length cap) (.slice fa A.free.length fc)) w w4 := ((hg2.drew.trans (G := fun _ => False) (Chg.of_below hb3) (fun _ _ h => h.elim)).alloc _).grown hgrow (fun k hk _ => .inr (.inr hk))
    have hls : w.heap.size ≤ w3.heap.size := Nat.le_trans hg2.size hb3.size
    have hfl : ∀ k, (Value.slice fa A.free.length fc).ownBlock = some k → k < w3.heap.size := fun k hk => Nat.lt_of_lt_of_le (own_lt hfr hk) hb3.size
    go_wp2_with fail
    go_ret
    have hb5 := (hb4.set 3 (.slice (some ⟨fg', 0, none⟩) (A.free.length + 1) fc')).set 4 (.int .i64 (A.live - 1))
    refine ⟨.slice (some ⟨fg', 0, none⟩) (A.free.length + 1) fc', rfl, ⟨by simpa [Ar.gone] using hb5, ?_, ?_, d1, ?_, ?_⟩, ?_, ?_⟩
    · have := own_setOther (own_setOther hsl4 ⟨g, 3, none⟩ d1 (.slice (some ⟨fg', 0, none⟩) (A.free.length + 1) fc')) ⟨g, 4, none⟩ d1 (.int .i64 (A.live - 1))
      simpa [Ar.gone] using this
    · have := own_setOther (own_setOther hown ⟨g, 3, none⟩ (by simpa [Value.ownBlock] using hne) (.slice (some ⟨fg', 0, none⟩) (A.free.length + 1) fc')) ⟨g, 4, none⟩ (by simpa [Value.ownBlock] using hne) (.int .i64 (A.live - 1))
      simpa [Ar.gone, fcells_append] using this
    · simpa [Value.ownBlock] using hne
    · intro k hk hk2
      simp [Value.ownBlock] at hk hk2
      subst hk hk2
      rcases H.out with h | h
      · exact d3 _ rfl h
      · have := own_lt (own_below (World.ownsRow.drew hsl) hb3) (k := fg') rfl; omega
    · exact (hcg.setCell ⟨g, 3, none⟩ (fun _ => .inl rfl) _).setCell ⟨g, 4, none⟩ (fun _ => .inl rfl) _
    · intro k hk
      simp [Value.ownBlock] at hk
      subst hk
      rcases H.out with h | h
      · exact .inl h
      · exact .inr (by omega)

theorem fcells_last (l : List Nat) (h : 0 < l.length) : (fcells l)[l.length - 1]? = some (.int .i64 ((l.getLastD 0 : Nat) : Int)) := by
  unfold fcells
  rw [List.getElem?_map]
  rw [List.getElem?_eq_getElem (by omega)]
  cases l with
  | nil => simp at h
  | cons x l => simp [List.getLastD, List.getLast_eq_getElem]

/-- an arena with a record more -/
def Ar.add {α : Type} (A : Ar α) (v : α) : Ar α :=
  if A.free = [] then ⟨A.b, A.s, A.slots ++ [(true, v)], [], A.live + 1⟩ else ⟨A.b, A.s, A.slots.set (A.free.getLastD 0) (true, v), A.free.dropLast, A.live + 1⟩
/-- the slot that the next record gets -/
def Ar.nextSlot {α : Type} (A : Ar α) : Nat := if A.free = [] then A.slots.length else A.free.getLastD 0

set_option maxRecDepth 100000 in
theorem add_used {w : World} {g : Nat} {A : Ar Int} {sv fv : Value} (h : AtI w g A sv fv) (v : Int) (hf : A.free ≠ []) (hfl : A.free.length < 2147483647) (hin : A.free.getLastD 0 < A.slots.length) (hl : A.slots.length ≤ 2147483647) (hlv : 0 ≤ A.live) (hlv2 : A.live < 2147483647) :
    Calls Try.prog 19 #[.pointer (some ⟨g, 0, none⟩), .int .i64 v] w fun e w' => ∃ fv', e = .returned (.int .i64 (hdl A.b A.s (A.free.getLastD 0))) ∧
      AtI w' g ⟨A.b, A.s, A.slots.set (A.free.getLastD 0) (true, v), A.free.dropLast, A.live + 1⟩ sv fv' ∧ Chg (Ft g sv fv) w w' ∧ fv'.ownBlock = fv.ownBlock := by
  have hfp : 0 < A.free.length := List.length_pos_iff.2 hf
  obtain ⟨sg, sc, rfl, hsc⟩ := own_some h.slots (by omega)
  obtain ⟨fg, fc, rfl, hfc⟩ := own_some h.free hfp
  have c0 := h.blk.cell 0
  have c1 := h.blk.cell 1
  have c2 := h.blk.cell 2
  have c3 := h.blk.cell 3
  have c4 := h.blk.cell 4
  have cf := h.blk.free
  simp at c0 c1 c2 c3 c4
  have hlt := h.blk.lt
  have u0 := h.free.cellAt (A.free.length - 1) (by omega)
  rw [fcells_last _ hfp] at u0
  have hsl1 := own_lt h.slots (k := sg) rfl
  have u1 := h.slots.frozenAt (A.free.getLastD 0 * 2)
  have u2 := h.slots.frozenAt (A.free.getLastD 0 * 2 + 1)
  have u3 := h.slots.cellAt (A.free.getLastD 0 * 2) (by omega)
  have u4 := h.slots.cellAt (A.free.getLastD 0 * 2 + 1) (by omega)
  obtain ⟨x, hx⟩ : ∃ x, A.slots[A.free.getLastD 0]? = some x := ⟨_, List.getElem?_eq_getElem hin⟩
  obtain ⟨xu, xv⟩ := x
  obtain ⟨t0, t1⟩ := scells_used _ _ _ _ hx
  rw [t0] at u3
  rw [t1] at u4
  have hne : sg ≠ g := by have := h.d1; simpa [Value.ownBlock] using this
  have hne2 : fg ≠ g := by have := h.d2; simpa [Value.ownBlock] using this
  have hne3 : fg ≠ sg := by have := h.d3 sg rfl; simpa [Value.ownBlock] using this
  obtain ⟨m, hm⟩ : ∃ m, A.free.length = m + 1 := ⟨A.free.length - 1, by omega⟩
  rw [hm] at c3 u0 hfc
  have HM := Lib.hid hm
  simp only [Nat.add_sub_cancel] at u0
  have hm2 : m < 2147483647 := by omega
  clear hf t0 t1 hx hm hfl hfp
  generalize A.free.getLastD 0 = k at *
  have H := Lib.hid h
  clear h
  go_enter Try.func19, Try.ntmps19
  go_wp2_with (go_at_call 14; refine (handle_any _ _ _ _).mono ?_; rintro e w2 ⟨rfl, hb2⟩)
  go_ret
  obtain ⟨hblk, hsl, hfr, d1, d2, d3⟩ := H.out
  have hb1 := (((hblk.set 3 (.slice (some ⟨fg, 0, none⟩) m fc)).setOther ⟨sg, k * 2, none⟩ (Ne.symm hne) (.bool true)).setOther ⟨sg, k * 2 + 1, none⟩ (Ne.symm hne) (.int .i64 v)).set 4 (.int .i64 (A.live + 1))
  have hs1 := own_setOther (own_set (own_set (own_setOther hsl ⟨g, 3, none⟩ d1 (.slice (some ⟨fg, 0, none⟩) m fc)) (k * 2) (.bool true)) (k * 2 + 1) (.int .i64 v)) ⟨g, 4, none⟩ d1 (.int .i64 (A.live + 1))
  rw [← scells_put] at hs1
  have hdl : A.free.dropLast.length = m := by rw [List.length_dropLast, HM.out]; omega
  have hf0 : Own w 3 1 (.slice (some ⟨fg, 0, none⟩) m fc) m (fcells A.free.dropLast) := by
    have h0 : Own w 3 1 (.slice (some ⟨fg, 0, none⟩) (m + 1) fc) (m + 1) (fcells A.free) := by rw [← HM.out]; exact hfr
    have := own_pop h0
    have e : (fcells A.free).take (m * 1) = fcells A.free.dropLast := by
      unfold fcells; rw [Nat.mul_one, List.dropLast_eq_take, HM.out, List.map_take]; rfl
    rw [e] at this
    exact this
  have hd2 : (Value.slice (some ⟨fg, 0, none⟩) m fc).ownBlock ≠ some g := by simpa [Value.ownBlock] using hne2
  have hd3 : (Value.slice (some ⟨fg, 0, none⟩) m fc).ownBlock ≠ some sg := by simpa [Value.ownBlock] using hne3
  have hf1 := own_setOther (own_setOther (own_setOther (own_setOther hf0 ⟨g, 3, none⟩ hd2 (.slice (some ⟨fg, 0, none⟩) m fc)) ⟨sg, k * 2, none⟩ hd3 (.bool true)) ⟨sg, k * 2 + 1, none⟩ hd3 (.int .i64 v)) ⟨g, 4, none⟩ hd2 (.int .i64 (A.live + 1))
  refine ⟨.slice (some ⟨fg, 0, none⟩) m fc, rfl, ⟨by simpa using hb1.below hb2, ?_, ?_, d1, hd2, ?_⟩, ?_, rfl⟩
  · simpa using own_below hs1 hb2
  · rw [hdl]; exact own_below hf1 hb2
  · intro j hj hj2
    simp [Value.ownBlock] at hj hj2
    omega
  · exact ((((Chg.refl _ w).setCell ⟨g, 3, none⟩ (fun _ => .inl rfl) _).setCell ⟨sg, k * 2, none⟩ (fun _ => .inr (.inl rfl)) _).setCell ⟨sg, k * 2 + 1, none⟩ (fun _ => .inr (.inl rfl)) _ |>.setCell ⟨g, 4, none⟩ (fun _ => .inl rfl) _).trans (G := fun _ => False) (Chg.of_below hb2) (fun _ _ h => h.elim)
end Go.Proofs.Ytabmmampgmcibaa.W
