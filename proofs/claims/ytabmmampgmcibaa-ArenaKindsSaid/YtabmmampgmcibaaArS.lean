/- The arena of strings: the contracts of its operations, as objects that lie apart. -/
import Derived.Test.YtabmmampgmcibaaArG
import Derived.Deep.RegionLaw
namespace Go.Proofs.Ytabmmampgmcibaa.W
open Go.RowKit
set_option linter.unusedVariables false

def encS (v : ByteArray) : List Value := [.string v]
theorem encS_len (v : ByteArray) : (encS v).length = 1 := rfl
theorem encS_one (v : ByteArray) : ∀ u ∈ encS v, u.oneCell' = true := by intro u hu; simp [encS] at hu; subst hu; rfl
/-- the objects of an arena -/
abbrev arS (g : Nat) (A : Ar ByteArray) (sv fv : Value) : List Ob := [bk g [.int .i64 A.b, .int .i64 A.s, sv, fv, .int .i64 A.live] 41, sl 95 2 sv A.slots.length (scells encS A.slots), sl 3 1 fv A.free.length (fcells A.free)]
theorem etS : ET Try.prog 39 95 2 24 := ET.mk' (z := .agg #[.bool false, .string ⟨#[]⟩]) Try.underlying39 (by kernel_rfl) rfl (by decide)
theorem etSI : ET Try.prog 30 3 1 8 := ET.mk' (z := .int .i64 0) Try.underlying30 (by kernel_rfl) rfl (by decide)
theorem usedS (l : List (Bool × ByteArray)) (i : Nat) (u : Bool) (v : ByteArray) (h : l[i]? = some (u, v)) : (scells encS l)[i * 2]? = some (.bool u) ∧ (scells encS l)[i * 2 + 1]? = some (.string v) := by
  have := scells_at (enc := encS) encS_len l i u v h
  refine ⟨this.1, this.2 0 (by decide)⟩
theorem putS (l : List (Bool × ByteArray)) (i : Nat) (u : Bool) (v : ByteArray) (hi : i < l.length) : scells encS (l.set i (u, v)) = ((scells encS l).set (i * 2) (.bool u)).set (i * 2 + 1) (.string v) := by
  rw [scells_set (enc := encS) encS_len l i u v hi]
  rfl

theorem newS (b s : Int) (w : World) :
    Calls Try.prog 22 #[.agg #[.int .i64 b, .int .i64 s]] w fun e w' => e = .returned (.agg #[.int .i64 b, .int .i64 s, .slice none 0 0, .slice none 0 0, .int .i64 0]) ∧ Below w.heap.size w w' := by
  go_enter Try.func22, Try.ntmps22
  go_wp2
  exact bodyPost_ret (v := .agg #[.int .i64 b, .int .i64 s, .slice none 0 0, .slice none 0 0, .int .i64 0]) (by simp [results, Try.results22, go_sem]) rfl ⟨rfl, ((Below.refl _ _).alloc (Nat.le_refl _) _).alloc (by simp) _⟩

theorem lenS {B : Nat} {w0 w : World} {g : Nat} {A : Ar ByteArray} {sv fv : Value} {l : List Ob} (h : All B w0 (arS g A sv fv ++ l) w) :
    Calls Try.prog 31 #[.pointer (some ⟨g, 0, none⟩)] w fun e w' => e = .returned (.int .i64 A.live) ∧ w' = w := by
  have b : Blk _ _ _ _ := h.head
  have c := b.cell 4
  simp at c
  clear b h
  go_enter Try.func31, Try.ntmps31
  go_wp2
  go_ret
  exact ⟨rfl, rfl⟩

theorem findS_none {B : Nat} {w0 w : World} {g : Nat} {A : Ar ByteArray} {sv fv : Value} {l : List Ob} (h : All B w0 (arS g A sv fv ++ l) w) (hd : Int) (h1 : -9223372036854775808 ≤ hd) (h2 : hd ≤ 9223372036854775807) (hl : A.slots.length ≤ 2000000000) (hk : A.look hd = none) :
    Calls Try.prog 44 #[.pointer (some ⟨g, 0, none⟩), .int .i64 hd] w fun e w' => e = .returned (.pointer none) ∧ Below w.heap.size w w' := by
  have hblk : Blk _ _ _ _ := h.head
  have hsl : Own _ _ _ _ _ _ := h.tail.head
  clear h
  have c0 := hblk.cell 0
  have c1 := hblk.cell 1
  have c2 := hblk.cell 2
  have hlt := hblk.lt
  simp at c0 c1 c2
  have i1 := idx_lo A.b A.s hd
  have i2 := idx_hi A.b A.s hd
  have L := look_none hk
  clear hk
  have I := fun W => index_any A.b A.s hd W h1 h2
  generalize idx A.b A.s hd = j at i1 i2 L I
  have HI := Lib.hid I
  clear I
  generalize A.slots.length = n at *
  by_cases hneg : j < 0
  · clear L
    obtain ⟨sa, sc, rfl⟩ := own_shape hsl
    go_enter Try.func44, Try.ntmps44
    go_wp2_with (go_at_call 16; refine (HI.out _).mono ?_; rintro e w2 ⟨rfl, hb2⟩)
    go_ret
    exact ⟨rfl, hb2⟩
  · by_cases hge : (n : Int) ≤ j
    · clear L
      obtain ⟨sa, sc, rfl⟩ := own_shape hsl
      go_enter Try.func44, Try.ntmps44
      go_wp2_with (go_at_call 16; refine (HI.out _).mono ?_; rintro e w2 ⟨rfl, hb2⟩; (obtain ⟨hc, hf⟩ := bcell hb2))
      go_ret
      exact ⟨rfl, hb2⟩
    · obtain ⟨v, hv⟩ := L (by omega) (by omega)
      obtain ⟨k, rfl⟩ := Int.eq_ofNat_of_zero_le (a := j) (by omega)
      obtain ⟨sg, sc, rfl, hsc⟩ := own_some hsl (by omega)
      rw [Int.toNat_natCast] at hv
      have u1 := (usedS _ _ _ _ hv).1
      have u2 := hsl.cellAt (k * 2) (by omega)
      rw [u1] at u2
      clear u1 hv
      have hsl1 := own_lt hsl (k := sg) rfl
      have hk1 : k < n := by omega
      go_enter Try.func44, Try.ntmps44
      go_wp2_with (go_at_call 16; refine (HI.out _).mono ?_; rintro e w2 ⟨rfl, hb2⟩; (obtain ⟨hc, hf⟩ := bcell hb2))
      go_ret
      exact ⟨rfl, hb2⟩

theorem findS_some {B : Nat} {w0 w : World} {g sg cap : Nat} {A : Ar ByteArray} {fv : Value} {l : List Ob} (h : All B w0 (arS g A (.slice (some ⟨sg, 0, none⟩) A.slots.length cap) fv ++ l) w) (hd : Int) (h1 : -9223372036854775808 ≤ hd) (h2 : hd ≤ 9223372036854775807) (hl : A.slots.length ≤ 2000000000) {k : Nat} (hk : A.look hd = some k) :
    Calls Try.prog 44 #[.pointer (some ⟨g, 0, none⟩), .int .i64 hd] w fun e w' => e = .returned (.pointer (some ⟨sg, k * 2, none⟩)) ∧ Below w.heap.size w w' := by
  have hblk : Blk _ _ _ _ := h.head
  have hsl : Own _ _ _ _ _ _ := h.tail.head
  clear h
  have c0 := hblk.cell 0
  have c1 := hblk.cell 1
  have c2 := hblk.cell 2
  have hlt := hblk.lt
  simp at c0 c1 c2
  obtain ⟨L1, L2, v, hv⟩ := look_some hk
  have I := fun W => index_any A.b A.s hd W h1 h2
  rw [L1] at I
  have HI := Lib.hid I
  clear I L1 hk
  have u1 := (usedS _ _ _ _ hv).1
  have u2 := hsl.cellAt (k * 2) (by omega)
  rw [u1] at u2
  clear u1 hv
  generalize A.slots.length = n at *
  have hsl1 := own_lt hsl (k := sg) rfl
  go_enter Try.func44, Try.ntmps44
  go_wp2_with (go_at_call 16; refine (HI.out _).mono ?_; rintro e w2 ⟨rfl, hb2⟩; (obtain ⟨hc, hf⟩ := bcell hb2))
  go_ret
  exact ⟨rfl, hb2⟩

set_option maxRecDepth 100000 in
theorem getS {B : Nat} {w0 w : World} {g : Nat} {A : Ar ByteArray} {sv fv : Value} {l : List Ob} (h : All B w0 (arS g A sv fv ++ l) w) (hd : Int) (h1 : -9223372036854775808 ≤ hd) (h2 : hd ≤ 9223372036854775807) (hl : A.slots.length ≤ 2000000000) :
    Calls Try.prog 29 #[.pointer (some ⟨g, 0, none⟩), .int .i64 hd] w fun e w' => e = .returned (.tuple #[.string ((A.get hd).getD ⟨#[]⟩), .bool (A.has hd)]) ∧ Below w.heap.size w w' := by
  cases hk : A.look hd with
  | none =>
    rw [has_none hk, get_eq_none hk]
    have HF := Lib.hid (findS_none h hd h1 h2 hl hk)
    clear h hk
    go_enter Try.func29, Try.ntmps29
    go_wp2_with (go_at_call 44; refine HF.out.mono ?_; rintro e w2 ⟨rfl, hb2⟩)
    go_ret2
    exact ⟨rfl, hb2⟩
  | some k =>
    obtain ⟨_, hkl, v, hv⟩ := look_some hk
    rw [has_some hk, get_eq_some hk hv]
    have hsl : Own _ _ _ _ _ _ := h.tail.head
    obtain ⟨sg, cap, rfl, hc⟩ := own_some hsl (by omega)
    have HF := Lib.hid (findS_some h hd h1 h2 hl hk)
    have u1 := (usedS _ _ _ _ hv).2
    have u2 := hsl.cellAt (k * 2 + 1) (by omega)
    rw [u1] at u2
    have hsl1 := own_lt hsl (k := sg) rfl
    clear h hk hv u1 hc hsl
    go_enter Try.func29, Try.ntmps29
    go_wp2_with (go_at_call 44; refine HF.out.mono ?_; rintro e w2 ⟨rfl, hb2⟩; (obtain ⟨hc, hf⟩ := bcell hb2))
    go_ret2
    exact ⟨rfl, hb2⟩

set_option maxRecDepth 100000 in
set_option maxHeartbeats 1000000 in
theorem addS_grow {B : Nat} {w0 w : World} {g : Nat} {b s live : Int} {slots : List (Bool × ByteArray)} {sv fv : Value} {l : List Ob} (h : All B w0 (arS g ⟨b, s, slots, [], live⟩ sv fv ++ l) w) (v : ByteArray) (hl : slots.length < 900000000) (hlv : 0 ≤ live) (hlv2 : live < 2147483647) :
    Calls Try.prog 24 #[.pointer (some ⟨g, 0, none⟩), .string v] w fun e w' => ∃ sv', e = .returned (.int .i64 (hdl b s slots.length)) ∧ All B w0 (arS g ⟨b, s, slots ++ [(true, v)], [], live + 1⟩ sv' fv ++ l) w' := by
  have hblk : Blk _ _ _ _ := h.head
  have hsl : Own _ _ _ _ _ _ := h.tail.head
  have hfr : Own _ _ _ _ _ _ := h.tail.tail.head
  simp only [] at hblk hsl hfr
  have c0 := hblk.cell 0
  have c1 := hblk.cell 1
  have c2 := hblk.cell 2
  have c3 := hblk.cell 3
  have c4 := hblk.cell 4
  have hlt := hblk.lt
  simp at c0 c1 c2 c3 c4
  obtain ⟨sa, sc, rfl⟩ := own_shape hsl
  obtain ⟨fa, fc, rfl⟩ := own_shape hfr
  simp only [List.length_nil] at c3
  have HA := Lib.hid (h.alloc (.cells #[.bool true, .string v] 95))
  clear h hblk hsl hfr
  go_enter Try.func24, Try.ntmps24
  go_wp2_with (at_builtin; refine wpList_append_all etS [_] HA.out (own_at (n := 1) (size := 2) (Blk.new w [.bool true, .string v] 95) rfl (by omega)) (by intro u hu; simp at hu; rcases hu with rfl | rfl <;> rfl) (by show slots.length + 1 ≤ _; omega) (by omega) rfl _ _ rfl rfl rfl ?_; intro v' w1 hA2; simp only [List.cons_append, List.nil_append] at hA2; have ho : Own _ _ _ _ _ _ := hA2.tail.head; obtain ⟨va, vc, rfl⟩ := own_shape ho; have b2 : Blk _ _ _ _ := hA2.head; have d0 := b2.cell 0; have d1 := b2.cell 1; have d2 := b2.cell 2; have d4 := b2.cell 4; have df := b2.free; simp at d0 d1 d2 d4; have HB := Lib.hid hA2; clear hA2 ho b2)
  go_wp2_with (go_at_call 14; refine (handle_any _ _ _ _).mono ?_; rintro e w2 ⟨rfl, hb2⟩)
  go_ret
  refine ⟨.slice va (slots.length + 1) vc, rfl, ?_⟩
  have h9 := ((HB.out.setBk [] 2 (.slice va (slots.length + 1) vc)).setBk [] 4 (.int .i64 (live + 1))).still hb2
  simpa [arS, scells_append, scells, encS] using h9

theorem dropS_none {B : Nat} {w0 w : World} {g : Nat} {A : Ar ByteArray} {sv fv : Value} {l : List Ob} (h : All B w0 (arS g A sv fv ++ l) w) (hd : Int) (h1 : -9223372036854775808 ≤ hd) (h2 : hd ≤ 9223372036854775807) (hl : A.slots.length ≤ 2000000000) (hk : A.look hd = none) :
    Calls Try.prog 26 #[.pointer (some ⟨g, 0, none⟩), .int .i64 hd] w fun e w' => e = .returned (.bool false) ∧ Below w.heap.size w w' := by
  have HF := Lib.hid (findS_none h hd h1 h2 hl hk)
  clear h hk
  go_enter Try.func26, Try.ntmps26
  go_wp2_with (go_at_call 44; refine HF.out.mono ?_; rintro e w2 ⟨rfl, hb2⟩)
  go_ret
  exact ⟨rfl, hb2⟩

set_option maxRecDepth 100000 in
set_option maxHeartbeats 1000000 in
theorem dropS_some {B : Nat} {w0 w : World} {g : Nat} {A : Ar ByteArray} {sv fv : Value} {l : List Ob} (h : All B w0 (arS g A sv fv ++ l) w) (hd : Int) (h1 : -9223372036854775808 ≤ hd) (h2 : hd ≤ 9223372036854775807) (hl : A.slots.length ≤ 2000000000) (hfl : A.free.length < 900000000) (hl1 : -2147483647 ≤ A.live) (hl2 : A.live ≤ 2147483647) {k : Nat} (hk : A.look hd = some k) :
    Calls Try.prog 26 #[.pointer (some ⟨g, 0, none⟩), .int .i64 hd] w fun e w' => ∃ fv', e = .returned (.bool true) ∧ All B w0 (arS g (A.gone ⟨#[]⟩ k) sv fv' ++ l) w' := by
  have hsl : Own _ _ _ _ _ _ := h.tail.head
  obtain ⟨hi1, hkl, v0, hv⟩ := look_some hk
  obtain ⟨sg, cap, rfl, hc⟩ := own_some hsl (by omega)
  have HF := Lib.hid (findS_some h hd h1 h2 hl hk)
  have I := fun W => index_any A.b A.s hd W h1 h2
  rw [hi1] at I
  have HI := Lib.hid I
  clear I hi1
  obtain ⟨t0, t1⟩ := usedS _ _ _ _ hv
  have u0 := hsl.cellAt (k * 2) (by omega)
  rw [t0] at u0
  have v00 := hsl.frozenAt (k * 2)
  have u1 := hsl.cellAt (k * 2 + 1) (by omega)
  rw [t1] at u1
  have v1 := hsl.frozenAt (k * 2 + 1)
  have hsl1 := own_lt hsl (k := sg) rfl
  have H := Lib.hid h
  clear hk hv hc t0 t1 hsl h
  go_enter Try.func26, Try.ntmps26
  go_wp2_with (go_at_call 44; refine HF.out.mono ?_; rintro e w2 ⟨rfl, hb2⟩; (obtain ⟨hc, hf⟩ := bcell hb2))
  have hA2 := H.out.still hb2
  have hA3 := ((hA2.setSl [_] (k * 2) (.bool false)).setSl [_] (k * 2 + 1) (.string ⟨#[]⟩))
  rw [← putS A.slots k false ⟨#[]⟩ hkl] at hA3
  generalize ((w2.setCell ⟨sg, k * 2, none⟩ (.bool false)).setCell ⟨sg, k * 2 + 1, none⟩ (.string ⟨#[]⟩)) = W at hA3 ⊢
  clear hb2 hc hf u0 v00 u1 v1 HF H
  have hblk : Blk _ _ _ _ := hA3.head
  have hfr : Own _ _ _ _ _ _ := hA3.tail.tail.head
  have c0 := hblk.cell 0
  have c1 := hblk.cell 1
  have c3 := hblk.cell 3
  have hlt := hblk.lt
  simp at c0 c1 c3
  obtain ⟨fa, fc, rfl⟩ := own_shape hfr
  have HA := Lib.hid hA3
  clear hblk hfr hA3 hA2
  go_region_law (first
    | (refine step_append_all etSI [_, _] ((HA.out.drew.still hb3).alloc (.cells #[.int .i64 (k : Int)] 3)) (own_at (n := 1) (size := 1) (Blk.new w3 [.int .i64 (k : Int)] 3) rfl (by omega)) (by intro u hu; simp at hu; subst hu; rfl) (by omega) (by omega) (by rfl) _ _ (by rfl) (by rfl) (by rfl) ?_; intro v' w4 hA4; simp only [List.cons_append, List.nil_append] at hA4; have ho : Own _ _ _ _ _ _ := hA4.tail.tail.head; obtain ⟨va, vc, rfl⟩ := own_shape ho; have b4 : Blk _ _ _ _ := hA4.head; have c43 := b4.cell 3; have c44 := b4.cell 4; have cf4 := b4.free; simp at c43 c44; have HB := Lib.hid hA4; clear hA4 ho b4)
    | (go_simp; go_at_call 16; refine (HI.out _).mono ?_; rintro e w3 ⟨rfl, hb3⟩; have b3 : Blk _ _ _ _ := (HA.out.drew.still hb3).head; have c33 := b3.cell 3; have c30 := b3.cell 0; have c31 := b3.cell 1; have hlt3 := b3.lt; simp at c33 c30 c31; clear b3))
  all_goals
    go_wp2_with fail
    go_ret
    refine ⟨.slice va (A.free.length + 1) vc, rfl, ?_⟩
    have h9 := (HB.out.setBk [] 3 (.slice va (A.free.length + 1) vc)).setBk [] 4 (.int .i64 (A.live - 1))
    simpa [arS, Ar.gone, fcells_append] using h9

theorem dropS {B : Nat} {w0 w : World} {g : Nat} {A : Ar ByteArray} {sv fv : Value} {l : List Ob} (h : All B w0 (arS g A sv fv ++ l) w) (hd : Int) (h1 : -9223372036854775808 ≤ hd) (h2 : hd ≤ 9223372036854775807) (hl : A.slots.length ≤ 2000000000) (hfl : A.free.length < 900000000) (hl1 : -2147483647 ≤ A.live) (hl2 : A.live ≤ 2147483647) :
    Calls Try.prog 26 #[.pointer (some ⟨g, 0, none⟩), .int .i64 hd] w fun e w' => ∃ fv', e = .returned (.bool (A.has hd)) ∧ All B w0 (arS g (A.drop ⟨#[]⟩ hd) sv fv' ++ l) w' := by
  cases hk : A.look hd with
  | none =>
    rw [has_none hk, drop_eq_none hk]
    refine (dropS_none h hd h1 h2 hl hk).mono ?_
    rintro e w' ⟨rfl, hb⟩
    exact ⟨fv, rfl, h.still hb⟩
  | some k =>
    rw [has_some hk, drop_eq_some hk]
    exact dropS_some h hd h1 h2 hl hfl hl1 hl2 hk

end Go.Proofs.Ytabmmampgmcibaa.W
