/- The arena of pairs: the contracts of its operations, as objects that lie apart. -/
import Derived.Test.YtabmmampgmcibaaArG
import Derived.Deep.RegionLaw
namespace Go.Proofs.Ytabmmampgmcibaa.W
open Go.RowKit
set_option linter.unusedVariables false

def encP (v : (ByteArray × Int)) : List Value := [.string v.1, .int .i64 v.2]
theorem encP_len (v : (ByteArray × Int)) : (encP v).length = 2 := rfl
theorem encP_one (v : (ByteArray × Int)) : ∀ u ∈ encP v, u.oneCell' = true := by intro u hu; simp [encP] at hu; rcases hu with rfl | rfl <;> rfl
/-- the objects of an arena -/
abbrev arP (g : Nat) (A : Ar (ByteArray × Int)) (sv fv : Value) : List Ob := [bk g [.int .i64 A.b, .int .i64 A.s, sv, fv, .int .i64 A.live] 45, sl 98 3 sv A.slots.length (scells encP A.slots), sl 3 1 fv A.free.length (fcells A.free)]
theorem etP : ET Try.prog 43 98 3 32 := ET.mk' (z := .agg #[.bool false, .string ⟨#[]⟩, .int .i64 0]) Try.underlying43 (by kernel_rfl) rfl (by decide)
theorem etPI : ET Try.prog 30 3 1 8 := ET.mk' (z := .int .i64 0) Try.underlying30 (by kernel_rfl) rfl (by decide)
theorem usedP (l : List (Bool × (ByteArray × Int))) (i : Nat) (u : Bool) (v : (ByteArray × Int)) (h : l[i]? = some (u, v)) : (scells encP l)[i * 3]? = some (.bool u) ∧ (scells encP l)[i * 3 + 1]? = some (.string v.1) ∧ (scells encP l)[i * 3 + 2]? = some (.int .i64 v.2) := by
  have := scells_at (enc := encP) encP_len l i u v h
  refine ⟨this.1, this.2 0 (by decide), this.2 1 (by decide)⟩
theorem putP (l : List (Bool × (ByteArray × Int))) (i : Nat) (u : Bool) (v : (ByteArray × Int)) (hi : i < l.length) : scells encP (l.set i (u, v)) = (((scells encP l).set (i * 3) (.bool u)).set (i * 3 + 1) (.string v.1)).set (i * 3 + 2) (.int .i64 v.2) := by
  rw [scells_set (enc := encP) encP_len l i u v hi]
  rfl

theorem newP (b s : Int) (w : World) :
    Calls Try.prog 23 #[.agg #[.int .i64 b, .int .i64 s]] w fun e w' => e = .returned (.agg #[.int .i64 b, .int .i64 s, .slice none 0 0, .slice none 0 0, .int .i64 0]) ∧ Below w.heap.size w w' := by
  go_enter Try.func23, Try.ntmps23
  go_wp2
  exact bodyPost_ret (v := .agg #[.int .i64 b, .int .i64 s, .slice none 0 0, .slice none 0 0, .int .i64 0]) (by simp [results, Try.results23, go_sem]) rfl ⟨rfl, ((Below.refl _ _).alloc (Nat.le_refl _) _).alloc (by simp) _⟩

theorem findP_none {B : Nat} {w0 w : World} {g : Nat} {A : Ar (ByteArray × Int)} {sv fv : Value} {l : List Ob} (h : All B w0 (arP g A sv fv ++ l) w) (hd : Int) (h1 : -9223372036854775808 ≤ hd) (h2 : hd ≤ 9223372036854775807) (hl : A.slots.length ≤ 2000000000) (hk : A.look hd = none) :
    Calls Try.prog 45 #[.pointer (some ⟨g, 0, none⟩), .int .i64 hd] w fun e w' => e = .returned (.pointer none) ∧ Below w.heap.size w w' := by
  have hblk : Blk _ _ _ _ := h.head
  have hsl : Own _ _ _ _ _ _ := h.tail.head
  clear h
  have c0 := hblk.cell 0
  have c1 := hblk.cell 1
  have c2 := hblk.cell 2
  have hlt := hblk.lt
  simp at c0 c1 c2
  have i1 := idx_lo A.b A.s hd
  have i2 := idx_hi A.b A.s hd
  have L := look_none hk
  clear hk
  have I := fun W => index_any A.b A.s hd W h1 h2
  generalize idx A.b A.s hd = j at i1 i2 L I
  have HI := Lib.hid I
  clear I
  generalize A.slots.length = n at *
  by_cases hneg : j < 0
  · clear L
    obtain ⟨sa, sc, rfl⟩ := own_shape hsl
    go_enter Try.func45, Try.ntmps45
    go_wp2_with (go_at_call 16; refine (HI.out _).mono ?_; rintro e w2 ⟨rfl, hb2⟩)
    go_ret
    exact ⟨rfl, hb2⟩
  · by_cases hge : (n : Int) ≤ j
    · clear L
      obtain ⟨sa, sc, rfl⟩ := own_shape hsl
      go_enter Try.func45, Try.ntmps45
      go_wp2_with (go_at_call 16; refine (HI.out _).mono ?_; rintro e w2 ⟨rfl, hb2⟩; (obtain ⟨hc, hf⟩ := bcell hb2))
      go_ret
      exact ⟨rfl, hb2⟩
    · obtain ⟨v, hv⟩ := L (by omega) (by omega)
      obtain ⟨k, rfl⟩ := Int.eq_ofNat_of_zero_le (a := j) (by omega)
      obtain ⟨sg, sc, rfl, hsc⟩ := own_some hsl (by omega)
      rw [Int.toNat_natCast] at hv
      have u1 := (usedP _ _ _ _ hv).1
      have u2 := hsl.cellAt (k * 3) (by omega)
      rw [u1] at u2
      clear u1 hv
      have hsl1 := own_lt hsl (k := sg) rfl
      have hk1 : k < n := by omega
      go_enter Try.func45, Try.ntmps45
      go_wp2_with (go_at_call 16; refine (HI.out _).mono ?_; rintro e w2 ⟨rfl, hb2⟩; (obtain ⟨hc, hf⟩ := bcell hb2))
      go_ret
      exact ⟨rfl, hb2⟩

theorem findP_some {B : Nat} {w0 w : World} {g sg cap : Nat} {A : Ar (ByteArray × Int)} {fv : Value} {l : List Ob} (h : All B w0 (arP g A (.slice (some ⟨sg, 0, none⟩) A.slots.length cap) fv ++ l) w) (hd : Int) (h1 : -9223372036854775808 ≤ hd) (h2 : hd ≤ 9223372036854775807) (hl : A.slots.length ≤ 2000000000) {k : Nat} (hk : A.look hd = some k) :
    Calls Try.prog 45 #[.pointer (some ⟨g, 0, none⟩), .int .i64 hd] w fun e w' => e = .returned (.pointer (some ⟨sg, k * 3, none⟩)) ∧ Below w.heap.size w w' := by
  have hblk : Blk _ _ _ _ := h.head
  have hsl : Own _ _ _ _ _ _ := h.tail.head
  clear h
  have c0 := hblk.cell 0
  have c1 := hblk.cell 1
  have c2 := hblk.cell 2
  have hlt := hblk.lt
  simp at c0 c1 c2
  obtain ⟨L1, L2, v, hv⟩ := look_some hk
  have I := fun W => index_any A.b A.s hd W h1 h2
  rw [L1] at I
  have HI := Lib.hid I
  clear I L1 hk
  have u1 := (usedP _ _ _ _ hv).1
  have u2 := hsl.cellAt (k * 3) (by omega)
  rw [u1] at u2
  clear u1 hv
  generalize A.slots.length = n at *
  have hsl1 := own_lt hsl (k := sg) rfl
  go_enter Try.func45, Try.ntmps45
  go_wp2_with (go_at_call 16; refine (HI.out _).mono ?_; rintro e w2 ⟨rfl, hb2⟩; (obtain ⟨hc, hf⟩ := bcell hb2))
  go_ret
  exact ⟨rfl, hb2⟩

set_option maxRecDepth 100000 in
theorem getP {B : Nat} {w0 w : World} {g : Nat} {A : Ar (ByteArray × Int)} {sv fv : Value} {l : List Ob} (h : All B w0 (arP g A sv fv ++ l) w) (hd : Int) (h1 : -9223372036854775808 ≤ hd) (h2 : hd ≤ 9223372036854775807) (hl : A.slots.length ≤ 2000000000) :
    Calls Try.prog 30 #[.pointer (some ⟨g, 0, none⟩), .int .i64 hd] w fun e w' => e = .returned (.tuple #[.agg #[.string ((A.get hd).getD (⟨#[]⟩, 0)).1, .int .i64 ((A.get hd).getD (⟨#[]⟩, 0)).2], .bool (A.has hd)]) ∧ Below w.heap.size w w' := by
  cases hk : A.look hd with
  | none =>
    rw [has_none hk, get_eq_none hk]
    have hA := h.alloc (.cells #[.string ⟨#[]⟩, .int .i64 0] 48)
    have HF := Lib.hid (findP_none (l := l) hA hd h1 h2 hl hk)
    clear h hk hA
    go_enter Try.func30, Try.ntmps30
    go_wp2_with (go_at_call 45; refine HF.out.mono ?_; rintro e w2 ⟨rfl, hb2⟩; have bz := (Blk.new w [.string ⟨#[]⟩, .int .i64 0] 48).below hb2; have z0 := bz.cell 0; simp at z0; have z1 := bz.cell 1; simp at z1; have fz := bz.free; have lz := bz.lt; have nz : w.heap.size ≠ w2.heap.size := Nat.ne_of_lt lz; have nz2 : w2.heap.size ≠ w.heap.size := Nat.ne_of_gt lz; clear bz)
    refine bodyPost_ret (v := .tuple #[.agg #[.string ⟨#[]⟩, .int .i64 0], .bool false]) (by simp [results, Try.results30, go_sem, *]) rfl ⟨rfl, ?_⟩
    have h9 := bthen ((Below.refl _ w).alloc (Nat.le_refl _) (.cells #[.string ⟨#[]⟩, .int .i64 0] 48)) hb2
    exact ((h9.setCell (p := ⟨w.heap.size, 0, none⟩) (Nat.le_refl _) (.string ⟨#[]⟩)).setCell (p := ⟨w.heap.size, 1, none⟩) (Nat.le_refl _) (.int .i64 0)).alloc (by simp [World.setCell]; exact Nat.le_of_lt lz) (.cells #[.string ⟨#[]⟩, .int .i64 0] 48)
  | some k =>
    obtain ⟨_, hkl, v, hv⟩ := look_some hk
    rw [has_some hk, get_eq_some hk hv]
    have hsl : Own _ _ _ _ _ _ := h.tail.head
    obtain ⟨sg, cap, rfl, hc⟩ := own_some hsl (by omega)
    have hA := h.alloc (.cells #[.string ⟨#[]⟩, .int .i64 0] 48)
    have HF := Lib.hid (findP_some (l := l) hA hd h1 h2 hl hk)
    obtain ⟨_, t1, t2⟩ := usedP _ _ _ _ hv
    have u1 := hsl.cellAt (k * 3 + 1) (by omega)
    rw [t1] at u1
    have u2 := hsl.cellAt (k * 3 + 2) (by omega)
    rw [t2] at u2
    have hsl1 := own_lt hsl (k := sg) rfl
    have ns : sg ≠ w.heap.size := by omega
    have ns2 : w.heap.size ≠ sg := by omega
    have hal : ∀ j, (w.alloc (.cells #[.string ⟨#[]⟩, .int .i64 0] 48)).cell? ⟨sg, j, none⟩ = w.cell? ⟨sg, j, none⟩ := fun j => World.cell?_alloc_lt _ _ _ hsl1
    clear h hk hv hc hsl t1 t2 hA
    go_enter Try.func30, Try.ntmps30
    go_wp2_with (go_at_call 45; refine HF.out.mono ?_; rintro e w2 ⟨rfl, hb2⟩; have bz := (Blk.new w [.string ⟨#[]⟩, .int .i64 0] 48).below hb2; have z0 := bz.cell 0; simp at z0; have z1 := bz.cell 1; simp at z1; have fz := bz.free; (obtain ⟨hc, hf⟩ := bcell hb2); have lz : sg < (w.alloc (.cells #[.string ⟨#[]⟩, .int .i64 0] 48)).heap.size := (by simp; omega); have g1 := (hc sg (k * 3 + 1) lz).trans ((hal _).trans u1); have g2 := (hc sg (k * 3 + 2) lz).trans ((hal _).trans u2); clear bz hc hf lz)
    refine bodyPost_ret (v := .tuple #[.agg #[.string v.1, .int .i64 v.2], .bool true]) (by simp [results, Try.results30, go_sem, *]) rfl ⟨rfl, ?_⟩
    have h9 := bthen ((Below.refl _ w).alloc (Nat.le_refl _) (.cells #[.string ⟨#[]⟩, .int .i64 0] 48)) hb2
    exact (h9.setCell (p := ⟨w.heap.size, 0, none⟩) (Nat.le_refl _) (.string v.1)).setCell (p := ⟨w.heap.size, 1, none⟩) (Nat.le_refl _) (.int .i64 v.2)

set_option maxRecDepth 100000 in
set_option maxHeartbeats 1000000 in
theorem addP_grow {B : Nat} {w0 w : World} {g : Nat} {b s live : Int} {slots : List (Bool × (ByteArray × Int))} {sv fv : Value} {l : List Ob} (h : All B w0 (arP g ⟨b, s, slots, [], live⟩ sv fv ++ l) w) (v : (ByteArray × Int)) (hl : slots.length < 900000000) (hlv : 0 ≤ live) (hlv2 : live < 2147483647) :
    Calls Try.prog 25 #[.pointer (some ⟨g, 0, none⟩), .agg #[.string v.1, .int .i64 v.2]] w fun e w' => ∃ sv', e = .returned (.int .i64 (hdl b s slots.length)) ∧ All B w0 (arP g ⟨b, s, slots ++ [(true, v)], [], live + 1⟩ sv' fv ++ l) w' := by
  have hblk : Blk _ _ _ _ := h.head
  have hsl : Own _ _ _ _ _ _ := h.tail.head
  have hfr : Own _ _ _ _ _ _ := h.tail.tail.head
  simp only [] at hblk hsl hfr
  have c0 := hblk.cell 0
  have c1 := hblk.cell 1
  have c2 := hblk.cell 2
  have c3 := hblk.cell 3
  have c4 := hblk.cell 4
  have hlt := hblk.lt
  simp at c0 c1 c2 c3 c4
  obtain ⟨sa, sc, rfl⟩ := own_shape hsl
  obtain ⟨fa, fc, rfl⟩ := own_shape hfr
  simp only [List.length_nil] at c3
  have hA := h.newBkA w.heap.size rfl [.string v.1, .int .i64 v.2] 48
  have hA1 : All B w0 (arP g ⟨b, s, slots, [], live⟩ (.slice sa slots.length sc) (.slice fa 0 fc) ++ (bk w.heap.size [.string v.1, .int .i64 v.2] 48 :: l)) _ := hA.perm (by simp only [List.cons_append, List.nil_append]; exact (List.Perm.swap _ _ _).trans (List.Perm.cons _ ((List.Perm.swap _ _ _).trans (List.Perm.cons _ (List.Perm.swap _ _ _)))))
  have hal : ∀ j, (w.alloc (.cells #[.string v.1, .int .i64 v.2] 48)).cell? ⟨g, j, none⟩ = w.cell? ⟨g, j, none⟩ := fun j => World.cell?_alloc_lt _ _ _ hlt
  have bb : Blk _ _ _ _ := hA1.tail.tail.tail.head
  have y0 : (w.alloc (.cells #[.string v.1, .int .i64 v.2] 48)).cell? ⟨w.heap.size, 0, none⟩ = some (.string v.1) := bb.cell 0
  have y1 : (w.alloc (.cells #[.string v.1, .int .i64 v.2] 48)).cell? ⟨w.heap.size, 1, none⟩ = some (.int .i64 v.2) := bb.cell 1
  have nb : g ≠ w.heap.size := by omega
  have nb2 : w.heap.size ≠ g := by omega
  have e2 := (hal 2).trans c2
  have HA := Lib.hid hA1
  clear h hblk hsl hfr hA hA1 bb
  go_enter Try.func25, Try.ntmps25
  go_wp2_with fail
  have hgW : g < (w.alloc (.cells #[.string v.1, .int .i64 v.2] 48)).heap.size := by simp; omega
  generalize w.alloc (.cells #[.string v.1, .int .i64 v.2] 48) = W at *
  have ea : ∀ o, (W.alloc o).cell? ⟨g, 2, none⟩ = some (.slice sa slots.length sc) := fun o => (World.cell?_alloc_lt _ _ _ hgW).trans e2
  go_region_law (first
      | (refine step_append_all etP [_] (HA.out.drew.alloc (.cells #[.bool true, .string v.1, .int .i64 v.2] 98)) (own_at (n := 1) (size := 3) (Blk.new W.drew [.bool true, .string v.1, .int .i64 v.2] 98) rfl (by omega)) (by intro u hu; simp at hu; rcases hu with rfl | rfl | rfl <;> rfl) (by show slots.length + 1 ≤ _; omega) (by omega) (by rfl) _ _ (by rfl) (by rfl) (by rfl) ?_; intro v' w1 hA2; have b3 : Blk _ _ _ _ := hA2.tail.tail.tail.head; have q0 := b3.cell 0; have q1 := b3.cell 1; simp at q0 q1; clear b3; simp only [List.cons_append, List.nil_append] at hA2; have ho : Own _ _ _ _ _ _ := hA2.tail.head; obtain ⟨va, vc, rfl⟩ := own_shape ho; have b2 : Blk _ _ _ _ := hA2.head; have d0 := b2.cell 0; have d1 := b2.cell 1; have d2 := b2.cell 2; have d4 := b2.cell 4; have df := b2.free; simp at d0 d1 d2 d4; have HB := Lib.hid hA2; clear hA2 ho b2))
  all_goals
    go_wp2_with (go_at_call 14; refine (handle_any _ _ _ _).mono ?_; rintro e w2 ⟨rfl, hb2⟩)
    go_ret
    refine ⟨.slice va (slots.length + 1) vc, rfl, ?_⟩
    have h9 := ((HB.out.setBk [] 2 (.slice va (slots.length + 1) vc)).setBk [] 4 (.int .i64 (live + 1))).still hb2
    have h9 := h9.sub (l' := _ :: _ :: _ :: l) (List.Sublist.cons_cons _ (List.Sublist.cons_cons _ (List.Sublist.cons_cons _ (List.Sublist.cons _ (List.Sublist.refl _)))))
    simpa [arP, scells_append, scells, encP] using h9

theorem dropP_none {B : Nat} {w0 w : World} {g : Nat} {A : Ar (ByteArray × Int)} {sv fv : Value} {l : List Ob} (h : All B w0 (arP g A sv fv ++ l) w) (hd : Int) (h1 : -9223372036854775808 ≤ hd) (h2 : hd ≤ 9223372036854775807) (hl : A.slots.length ≤ 2000000000) (hk : A.look hd = none) :
    Calls Try.prog 27 #[.pointer (some ⟨g, 0, none⟩), .int .i64 hd] w fun e w' => e = .returned (.bool false) ∧ Below w.heap.size w w' := by
  have HF := Lib.hid (findP_none h hd h1 h2 hl hk)
  clear h hk
  go_enter Try.func27, Try.ntmps27
  go_wp2_with (go_at_call 45; refine HF.out.mono ?_; rintro e w2 ⟨rfl, hb2⟩)
  go_ret
  exact ⟨rfl, hb2⟩

set_option maxRecDepth 100000 in
set_option maxHeartbeats 1000000 in
theorem dropP_some {B : Nat} {w0 w : World} {g : Nat} {A : Ar (ByteArray × Int)} {sv fv : Value} {l : List Ob} (h : All B w0 (arP g A sv fv ++ l) w) (hd : Int) (h1 : -9223372036854775808 ≤ hd) (h2 : hd ≤ 9223372036854775807) (hl : A.slots.length ≤ 2000000000) (hfl : A.free.length < 900000000) (hl1 : -2147483647 ≤ A.live) (hl2 : A.live ≤ 2147483647) {k : Nat} (hk : A.look hd = some k) :
    Calls Try.prog 27 #[.pointer (some ⟨g, 0, none⟩), .int .i64 hd] w fun e w' => ∃ fv', e = .returned (.bool true) ∧ All B w0 (arP g (A.gone (⟨#[]⟩, 0) k) sv fv' ++ l) w' := by
  have hsl : Own _ _ _ _ _ _ := h.tail.head
  obtain ⟨hi1, hkl, v0, hv⟩ := look_some hk
  obtain ⟨sg, cap, rfl, hc⟩ := own_some hsl (by omega)
  have HF := Lib.hid (findP_some h hd h1 h2 hl hk)
  have I := fun W => index_any A.b A.s hd W h1 h2
  rw [hi1] at I
  have HI := Lib.hid I
  clear I hi1
  obtain ⟨t0, t1, t2⟩ := usedP _ _ _ _ hv
  have u0 := hsl.cellAt (k * 3) (by omega)
  rw [t0] at u0
  have v00 := hsl.frozenAt (k * 3)
  have u1 := hsl.cellAt (k * 3 + 1) (by omega)
  rw [t1] at u1
  have v1 := hsl.frozenAt (k * 3 + 1)
  have u2 := hsl.cellAt (k * 3 + 2) (by omega)
  rw [t2] at u2
  have v2 := hsl.frozenAt (k * 3 + 2)
  have hsl1 := own_lt hsl (k := sg) rfl
  have H := Lib.hid h
  clear hk hv hc t0 t1 t2 hsl h
  go_enter Try.func27, Try.ntmps27
  go_wp2_with (go_at_call 45; refine HF.out.mono ?_; rintro e w2 ⟨rfl, hb2⟩; (obtain ⟨hc, hf⟩ := bcell hb2))
  have hA2 := H.out.still hb2
  have hA3 := (((hA2.setSl [_] (k * 3) (.bool false)).setSl [_] (k * 3 + 1) (.string ⟨#[]⟩)).setSl [_] (k * 3 + 2) (.int .i64 0))
  rw [← putP A.slots k false (⟨#[]⟩, 0) hkl] at hA3
  generalize (((w2.setCell ⟨sg, k * 3, none⟩ (.bool false)).setCell ⟨sg, k * 3 + 1, none⟩ (.string ⟨#[]⟩)).setCell ⟨sg, k * 3 + 2, none⟩ (.int .i64 0)) = W at hA3 ⊢
  clear hb2 hc hf u0 v00 u1 v1 u2 v2 HF H
  have hblk : Blk _ _ _ _ := hA3.head
  have hfr : Own _ _ _ _ _ _ := hA3.tail.tail.head
  have c0 := hblk.cell 0
  have c1 := hblk.cell 1
  have c3 := hblk.cell 3
  have hlt := hblk.lt
  simp at c0 c1 c3
  obtain ⟨fa, fc, rfl⟩ := own_shape hfr
  have HA := Lib.hid hA3
  clear hblk hfr hA3 hA2
  go_region_law (first
    | (refine step_append_all etPI [_, _] ((HA.out.drew.still hb3).alloc (.cells #[.int .i64 (k : Int)] 3)) (own_at (n := 1) (size := 1) (Blk.new w3 [.int .i64 (k : Int)] 3) rfl (by omega)) (by intro u hu; simp at hu; subst hu; rfl) (by omega) (by omega) (by rfl) _ _ (by rfl) (by rfl) (by rfl) ?_; intro v' w4 hA4; simp only [List.cons_append, List.nil_append] at hA4; have ho : Own _ _ _ _ _ _ := hA4.tail.tail.head; obtain ⟨va, vc, rfl⟩ := own_shape ho; have b4 : Blk _ _ _ _ := hA4.head; have c43 := b4.cell 3; have c44 := b4.cell 4; have cf4 := b4.free; simp at c43 c44; have HB := Lib.hid hA4; clear hA4 ho b4)
    | (go_simp; go_at_call 16; refine (HI.out _).mono ?_; rintro e w3 ⟨rfl, hb3⟩; have b3 : Blk _ _ _ _ := (HA.out.drew.still hb3).head; have c33 := b3.cell 3; have c30 := b3.cell 0; have c31 := b3.cell 1; have hlt3 := b3.lt; simp at c33 c30 c31; clear b3))
  all_goals
    go_wp2_with fail
    go_ret
    refine ⟨.slice va (A.free.length + 1) vc, rfl, ?_⟩
    have h9 := (HB.out.setBk [] 3 (.slice va (A.free.length + 1) vc)).setBk [] 4 (.int .i64 (A.live - 1))
    simpa [arP, Ar.gone, fcells_append] using h9

theorem dropP {B : Nat} {w0 w : World} {g : Nat} {A : Ar (ByteArray × Int)} {sv fv : Value} {l : List Ob} (h : All B w0 (arP g A sv fv ++ l) w) (hd : Int) (h1 : -9223372036854775808 ≤ hd) (h2 : hd ≤ 9223372036854775807) (hl : A.slots.length ≤ 2000000000) (hfl : A.free.length < 900000000) (hl1 : -2147483647 ≤ A.live) (hl2 : A.live ≤ 2147483647) :
    Calls Try.prog 27 #[.pointer (some ⟨g, 0, none⟩), .int .i64 hd] w fun e w' => ∃ fv', e = .returned (.bool (A.has hd)) ∧ All B w0 (arP g (A.drop (⟨#[]⟩, 0) hd) sv fv' ++ l) w' := by
  cases hk : A.look hd with
  | none =>
    rw [has_none hk, drop_eq_none hk]
    refine (dropP_none h hd h1 h2 hl hk).mono ?_
    rintro e w' ⟨rfl, hb⟩
    exact ⟨fv, rfl, h.still hb⟩
  | some k =>
    rw [has_some hk, drop_eq_some hk]
    exact dropP_some h hd h1 h2 hl hfl hl1 hl2 hk

end Go.Proofs.Ytabmmampgmcibaa.W
