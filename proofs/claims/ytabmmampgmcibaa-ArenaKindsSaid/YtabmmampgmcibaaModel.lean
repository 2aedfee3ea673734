/- The reference's arena (Model): the contracts of Op.Handle, Has, with, Set, Drop, Len. -/
import Derived.Test.YtabmmampgmcibaaApp
import Derived.Test.YtabmmampgmcibaaPlain
import Derived.Test.YtabmmampgmcibaaReg
namespace Go.Proofs.Ytabmmampgmcibaa.W
open Go.RowKit
set_option linter.unusedVariables false

theorem etC : ET Try.prog 66 80 2 16 := ET.mk' (z := .agg #[.bool false, .int .i64 0]) Try.underlying66 (by kernel_rfl) rfl (by decide)
theorem etI : ET Try.prog 30 3 1 8 := ET.mk' (z := .int .i64 0) Try.underlying30 (by kernel_rfl) rfl (by decide)

/-- the handle of an operation -/
def opH (raw : Bool) (v : Int) (pk : Nat) (xs : List Int) : Int := if raw = true ∨ xs.length = 0 then v else xs.getD (pk % xs.length) 0

theorem opH_any (kd pk : Int) (raw : Bool) (v : Int) (gv : Value) (xs : List Int) (w : World) (h : Own w 3 1 gv xs.length (hcells xs)) (p1 : 0 ≤ pk) (p2 : pk ≤ 255) (v1 : -32768 ≤ v) (v2 : v ≤ 32767) (hl : xs.length ≤ 1000) :
    Calls Try.prog 34 #[.agg #[.int .u8 kd, .int .u8 pk, .bool raw, .int .i16 v], gv] w fun e w' => e = .returned (.int .i64 (opH raw v pk.toNat xs)) ∧ Below w.heap.size w w' := by
  obtain ⟨pk, rfl⟩ := Int.eq_ofNat_of_zero_le p1
  rw [Int.toNat_natCast]
  by_cases hr : raw = true
  · subst hr
    have e0 : opH true v pk xs = v := by unfold opH; rw [if_pos (.inl rfl)]
    rw [e0]
    clear e0 h
    go_enter Try.func34, Try.ntmps34
    go_wp2_with fail
    go_ret
    exact ⟨rfl, (Below.refl _ _).alloc (Nat.le_refl _) _⟩
  · have hr' : raw = false := by simpa using hr
    subst hr'
    by_cases hn : xs.length = 0
    · have e0 : opH false v pk xs = v := by unfold opH; rw [if_pos (.inr hn)]
      rw [e0]
      rw [hn] at h
      obtain ⟨ga, gc, rfl⟩ := own_shape h
      clear e0 h hr hn
      go_enter Try.func34, Try.ntmps34
      go_wp2_with fail
      go_ret
      exact ⟨rfl, (Below.refl _ _).alloc (Nat.le_refl _) _⟩
    · have e0 : opH false v pk xs = xs.getD (pk % xs.length) 0 := by unfold opH; rw [if_neg (by simp [hn])]
      rw [e0]
      obtain ⟨gg, gc, rfl, _⟩ := own_some h (by omega)
      have hq : pk % xs.length < xs.length := Nat.mod_lt _ (by omega)
      have hc := h.cellAt (pk % xs.length) (by omega)
      have hc2 : (hcells xs)[pk % xs.length]? = some (.int .i64 (xs.getD (pk % xs.length) 0)) := by
        unfold hcells
        rw [List.getElem?_map, List.getD_eq_getElem?_getD, List.getElem?_eq_getElem hq]
        rfl
      rw [hc2] at hc
      have hlt := own_lt h (k := gg) rfl
      have hpos : ¬ (xs.length : Int) = 0 := by omega
      clear e0 h hr hc2 hn
      generalize xs.length = n at *
      generalize xs.getD (pk % n) 0 = y at *
      have z1 : (0 : Int) ≤ (pk : Int) % (n : Int) := Int.emod_nonneg _ (by omega)
      have z2 : (pk : Int) % (n : Int) < (n : Int) := Int.emod_lt_of_pos _ (by omega)
      have z3 : ((pk : Int) % (n : Int)).toNat = pk % n := by omega
      go_enter Try.func34, Try.ntmps34
      go_wp2_with fail
      go_ret
      exact ⟨rfl, (Below.refl _ _).alloc (Nat.le_refl _) _⟩

/-- a Model as a value -/
abbrev mdV (b s : Int) (cv fv : Value) : Value := .agg #[.int .i64 b, .int .i64 s, cv, fv]
/-- its cells -/
abbrev csl (cv : Value) (l : List (Bool × Int)) : Ob := sl 80 2 cv l.length (scells icell l)
abbrev fsl (fv : Value) (l : List Nat) : Ob := sl 3 1 fv l.length (fcells l)
def Ar.lookI {α : Type} (A : Ar α) (h : Int) : Int := match A.look h with | some k => (k : Int) | none => -1

theorem mhas_any {w : World} {A : Ar Int} {cv fv : Value} (h : Own w 80 2 cv A.slots.length (scells icell A.slots)) (hd : Int) (h1 : -9223372036854775808 ≤ hd) (h2 : hd ≤ 9223372036854775807) (hl : A.slots.length ≤ 2147483647) :
    Calls Try.prog 39 #[mdV A.b A.s cv fv, .int .i64 hd] w fun e w' => e = .returned (.int .i64 (A.lookI hd)) ∧ Below w.heap.size w w' := by
  have i1 := idx_lo A.b A.s hd
  have i2 := idx_hi A.b A.s hd
  have I := fun W => rindex_any A.b A.s hd W h1 h2
  have LN := @look_none _ A hd
  have LS := @look_some _ A hd
  have e0 : ∀ j, A.look hd = j → A.lookI hd = (match j with | some k => (k : Int) | none => -1) := by intro j hj; unfold Ar.lookI; rw [hj]
  generalize A.lookI hd = r at e0 ⊢
  generalize hL : A.look hd = L at LN LS e0
  have e1 := e0 L rfl
  clear e0 hL
  have HI := Lib.hid I
  clear I
  generalize A.slots.length = n at *
  cases L with
  | none =>
    simp only at e1
    subst e1
    have L1 := LN rfl
    clear LN LS
    generalize idx A.b A.s hd = j at i1 i2 L1 HI
    by_cases hneg : j < 0
    · clear L1
      obtain ⟨sa, sc, rfl⟩ := own_shape h
      go_enter Try.func39, Try.ntmps39
      go_wp2_with (go_at_call 17; refine (HI.out _).mono ?_; rintro e w2 ⟨rfl, hb2⟩; (obtain ⟨hc, hf⟩ := bcell hb2))
      go_ret
      exact ⟨rfl, bthen ((Below.refl _ _).alloc (Nat.le_refl _) _) hb2⟩
    · by_cases hge : (n : Int) ≤ j
      · clear L1
        obtain ⟨sa, sc, rfl⟩ := own_shape h
        go_enter Try.func39, Try.ntmps39
        go_wp2_with (go_at_call 17; refine (HI.out _).mono ?_; rintro e w2 ⟨rfl, hb2⟩; (obtain ⟨hc, hf⟩ := bcell hb2))
        go_ret
        exact ⟨rfl, bthen ((Below.refl _ _).alloc (Nat.le_refl _) _) hb2⟩
      · obtain ⟨v, hv⟩ := L1 (by omega) (by omega)
        obtain ⟨k, rfl⟩ := Int.eq_ofNat_of_zero_le (a := j) (by omega)
        obtain ⟨sg, sc, rfl, hsc⟩ := own_some h (by omega)
        rw [Int.toNat_natCast] at hv
        obtain ⟨u1, _⟩ := scells_used _ _ _ _ hv
        have u2 := h.cellAt (k * 2) (by omega)
        rw [u1] at u2
        clear u1 hv
        have hsl1 := own_lt h (k := sg) rfl
        have hk1 : k < n := by omega
        go_enter Try.func39, Try.ntmps39
        go_wp2_with (go_at_call 17; refine (HI.out _).mono ?_; rintro e w2 ⟨rfl, hb2⟩; (obtain ⟨hc, hf⟩ := bcell hb2))
        go_ret
        exact ⟨rfl, bthen ((Below.refl _ _).alloc (Nat.le_refl _) _) hb2⟩
  | some k =>
    simp only at e1
    subst e1
    obtain ⟨L1, L2, v, hv⟩ := LS rfl
    clear LN LS
    rw [L1] at HI i1 i2
    clear L1
    obtain ⟨sg, sc, rfl, hsc⟩ := own_some h (by omega)
    obtain ⟨u1, _⟩ := scells_used _ _ _ _ hv
    have u2 := h.cellAt (k * 2) (by omega)
    rw [u1] at u2
    clear u1 hv
    have hsl1 := own_lt h (k := sg) rfl
    go_enter Try.func39, Try.ntmps39
    go_wp2_with (go_at_call 17; refine (HI.out _).mono ?_; rintro e w2 ⟨rfl, hb2⟩; (obtain ⟨hc, hf⟩ := bcell hb2))
    go_ret
    exact ⟨rfl, bthen ((Below.refl _ _).alloc (Nat.le_refl _) _) hb2⟩

theorem one_icells (l : List (Bool × Int)) : ∀ u ∈ scells icell l, u.oneCell' = true := by
  induction l with
  | nil => simp [scells]
  | cons x l ih => obtain ⟨b, v⟩ := x; intro u hu; simp [scells, icell] at hu; rcases hu with rfl | rfl | hu; rfl; rfl; exact ih u hu
theorem one_fcells (l : List Nat) : ∀ u ∈ fcells l, u.oneCell' = true := by
  intro u hu
  simp [fcells] at hu
  obtain ⟨k, _, rfl⟩ := hu
  rfl

set_option maxRecDepth 100000 in
theorem mwith_any {w : World} {b s : Int} {l : List (Bool × Int)} {cv fv : Value} (h : Own w 80 2 cv l.length (scells icell l)) (hf : ∃ fa fn fc, fv = .slice fa fn fc) (k : Nat) (hk : k < l.length) (hl : l.length ≤ 1000000) (u : Bool) (v : Int) :
    Calls Try.prog 46 #[mdV b s cv fv, .int .i64 (k : Int), .agg #[.bool u, .int .i64 v]] w fun e w' => ∃ cv', e = .returned (mdV b s cv' fv) ∧ All w.heap.size w [csl cv' (l.set k (u, v))] w' := by
  obtain ⟨fa, fn, fc, rfl⟩ := hf
  obtain ⟨sg, sc, rfl, hsc⟩ := own_some h (by omega)
  have hA1 := ((((All.start w).newBkA w.heap.size rfl [.int .i64 b, .int .i64 s, .slice (some ⟨sg, 0, none⟩) l.length sc, .slice fa fn fc] 68).newBkA (w.heap.size + 1) (by simp) [.bool u, .int .i64 v] 80).newBkA (w.heap.size + 2) (by simp) [.int .i64 0, .int .i64 0, .slice none 0 0, .slice none 0 0] 68).newSlA (w.heap.size + 3) (by simp) 80 2 0 [] rfl (by omega)
  have hS := own_below h hA1.below
  have HA := Lib.hid hA1
  have HS := Lib.hid hS
  clear h hS hA1
  go_enter Try.func46, Try.ntmps46
  obtain ⟨x, hx⟩ : ∃ x, l[k]? = some x := ⟨_, List.getElem?_eq_getElem hk⟩
  obtain ⟨xu, xv⟩ := x
  obtain ⟨t0, t1⟩ := scells_used _ _ _ _ hx
  have T0 := Lib.hid t0
  have T1 := Lib.hid t1
  clear t0 t1 hx
  go_wp2_with (at_builtin; refine wpList_append_all etC [] HA.out HS.out (one_icells l) (by omega) (by omega) rfl _ _ rfl rfl rfl ?_; intro v' w1 hA2; simp only [List.nil_append, Nat.zero_add] at hA2; have ho : Own _ _ _ _ _ _ := hA2.head; obtain ⟨vg, vc, rfl, hvc⟩ := own_some ho (by omega); have n2 := hA2.sl_ne_bk (g' := w.heap.size + 2) (List.Mem.head _); have n1 := hA2.sl_ne_bk (g' := w.heap.size + 1) (List.Mem.tail _ (List.Mem.head _)); have n0 := hA2.sl_ne_bk (g' := w.heap.size) (List.Mem.tail _ (List.Mem.tail _ (List.Mem.head _))); have b2 : Blk _ _ _ _ := hA2.tail.head; have b1 : Blk _ _ _ _ := hA2.tail.tail.head; have b0 : Blk _ _ _ _ := hA2.tail.tail.tail.head; have q0 := ho.cellAt (k * 2) (by omega); have q1 := ho.cellAt (k * 2 + 1) (by omega); rw [T0.out] at q0; rw [T1.out] at q1; have z0 := ho.frozenAt (k * 2); have z1 := ho.frozenAt (k * 2 + 1); have c10 := b1.cell 0; have c11 := b1.cell 1; have c00 := b0.cell 0; have c01 := b0.cell 1; have c03 := b0.cell 3; have c20 := b2.cell 0; have c21 := b2.cell 1; have c22 := b2.cell 2; have c23 := b2.cell 3; have f2 := b2.free; simp at c10 c11 c00 c01 c03 c20 c21 c22 c23; clear ho b2 b1 b0; have HB := Lib.hid hA2; clear hA2)
  refine bodyPost_ret (v := mdV b s (.slice (some ⟨vg, 0, none⟩) l.length vc) (.slice fa fn fc)) (by simp [results, Try.results46, go_sem, *]) rfl ⟨_, rfl, ?_⟩
  have h5 := ((((((HB.out.setSl [] (k * 2) (.bool u)).setSl [] (k * 2 + 1) (.int .i64 v)).setBk [_] 0 (.int .i64 b)).setBk [_] 1 (.int .i64 s)).setBk [_] 2 (.slice (some ⟨vg, 0, none⟩) l.length vc)).setBk [_] 3 (.slice fa fn fc))
  rw [← scells_put] at h5
  have h6 := h5.sub (l' := [_]) (List.Sublist.cons_cons _ (List.nil_sublist _))
  simpa [csl] using h6

theorem lookI_none {α : Type} {A : Ar α} {h : Int} (k : A.look h = none) : A.lookI h = -1 := by unfold Ar.lookI; rw [k]
theorem lookI_some {α : Type} {A : Ar α} {h : Int} {i : Nat} (k : A.look h = some i) : A.lookI h = (i : Int) := by unfold Ar.lookI; rw [k]

set_option maxRecDepth 100000 in
theorem mset_none {w : World} {A : Ar Int} {cv fv : Value} (h : Own w 80 2 cv A.slots.length (scells icell A.slots)) (hf : ∃ fa fn fc, fv = .slice fa fn fc) (hd v : Int) (h1 : -9223372036854775808 ≤ hd) (h2 : hd ≤ 9223372036854775807) (hl : A.slots.length ≤ 1000000) (hk : A.look hd = none) :
    Calls Try.prog 36 #[mdV A.b A.s cv fv, .int .i64 hd, .int .i64 v] w fun e w' => e = .returned (.tuple #[mdV A.b A.s cv fv, .bool false]) ∧ Below w.heap.size w w' := by
  have M := fun W (hW : Own W 80 2 cv A.slots.length (scells icell A.slots)) => mhas_any (fv := fv) hW hd h1 h2 (by omega)
  rw [lookI_none hk] at M
  obtain ⟨fa, fn, fc, rfl⟩ := hf
  obtain ⟨sa, sc, rfl⟩ := own_shape h
  have hA1 := (((All.start w).newBkA w.heap.size rfl [.int .i64 A.b, .int .i64 A.s, .slice sa A.slots.length sc, .slice fa fn fc] 68).newBkA (w.heap.size + 1) (by simp) [.int .i64 0, .int .i64 0, .slice none 0 0, .slice none 0 0] 68)
  have HM := Lib.hid (M _ (own_below h hA1.below))
  have HA := Lib.hid hA1
  clear M h hA1 hk
  go_enter Try.func36, Try.ntmps36
  go_wp2_with fail
  refine HM.out.mono ?_
  rintro e w2 ⟨rfl, hb2⟩
  have hA2 := HA.out.still hb2
  have b1 : Blk _ _ _ _ := hA2.head
  have b0 : Blk _ _ _ _ := hA2.tail.head
  have c00 := b0.cell 0
  have c01 := b0.cell 1
  have c02 := b0.cell 2
  have c03 := b0.cell 3
  have c10 := b1.cell 0
  have c11 := b1.cell 1
  have c12 := b1.cell 2
  have c13 := b1.cell 3
  have f1 := b1.free
  simp at c00 c01 c02 c03 c10 c11 c12 c13
  have HB := Lib.hid hA2
  clear hb2 hA2 b0 b1
  go_wp2_with fail
  refine bodyPost_ret (v := .tuple #[mdV A.b A.s (.slice sa A.slots.length sc) (.slice fa fn fc), .bool false]) (by simp [results, Try.results36, go_sem, *]) rfl ⟨rfl, ?_⟩
  have h5 := (((HB.out.setBk [] 0 (.int .i64 A.b)).setBk [] 1 (.int .i64 A.s)).setBk [] 2 (.slice sa A.slots.length sc)).setBk [] 3 (.slice fa fn fc)
  exact h5.below

set_option maxRecDepth 100000 in
theorem mset_some {w : World} {A : Ar Int} {cv fv : Value} (h : Own w 80 2 cv A.slots.length (scells icell A.slots)) (hf : ∃ fa fn fc, fv = .slice fa fn fc) (hd v : Int) (h1 : -9223372036854775808 ≤ hd) (h2 : hd ≤ 9223372036854775807) (hl : A.slots.length ≤ 1000000) {k : Nat} (hk : A.look hd = some k) :
    Calls Try.prog 36 #[mdV A.b A.s cv fv, .int .i64 hd, .int .i64 v] w fun e w' => ∃ cv', e = .returned (.tuple #[mdV A.b A.s cv' fv, .bool true]) ∧ All w.heap.size w [csl cv' (A.slots.set k (true, v))] w' := by
  have M := fun W (hW : Own W 80 2 cv A.slots.length (scells icell A.slots)) => mhas_any (fv := fv) hW hd h1 h2 (by omega)
  rw [lookI_some hk] at M
  have hkl := (look_some hk).2.1
  obtain ⟨fa, fn, fc, rfl⟩ := hf
  obtain ⟨sa, sc, rfl⟩ := own_shape h
  have hA1 := (((All.start w).newBkA w.heap.size rfl [.int .i64 A.b, .int .i64 A.s, .slice sa A.slots.length sc, .slice fa fn fc] 68).newBkA (w.heap.size + 1) (by simp) [.int .i64 0, .int .i64 0, .slice none 0 0, .slice none 0 0] 68)
  have hS := own_below h hA1.below
  have HM := Lib.hid (M _ hS)
  have HS := Lib.hid hS
  have HA := Lib.hid hA1
  clear M h hA1 hk hS
  go_enter Try.func36, Try.ntmps36
  go_wp2_with fail
  refine HM.out.mono ?_
  rintro e w2 ⟨rfl, hb2⟩
  have hA2 := HA.out.still hb2
  have hS2 := own_below HS.out hb2
  have b0 : Blk _ _ _ _ := hA2.tail.head
  have c00 := b0.cell 0
  have c01 := b0.cell 1
  have c02 := b0.cell 2
  have c03 := b0.cell 3
  simp at c00 c01 c02 c03
  have HB := Lib.hid hA2
  have HW := Lib.hid (mwith_any (b := A.b) (s := A.s) (fv := .slice fa fn fc) hS2 ⟨_, _, _, rfl⟩ k hkl hl true v)
  clear hb2 hA2 b0 HS HA HM hS2
  go_wp2_with fail
  refine HW.out.mono ?_
  rintro e w3 ⟨cv', rfl, hA3⟩
  have hA4 := HB.out.after hA3
  obtain ⟨ca, cn, cc, rfl⟩ : ∃ ca cn cc, cv' = .slice ca cn cc := by
    have ho : Own _ _ _ _ _ _ := hA3.head
    obtain ⟨ca, cc, rfl⟩ := own_shape ho
    exact ⟨_, _, _, rfl⟩
  have b1 : Blk _ _ _ _ := hA4.tail.head
  have c10 := b1.cell 0
  have c11 := b1.cell 1
  have c12 := b1.cell 2
  have c13 := b1.cell 3
  have f1 := b1.free
  simp at c10 c11 c12 c13
  have HC := Lib.hid hA4
  clear hA4 hA3 HB b1
  go_wp2_with fail
  refine bodyPost_ret (v := .tuple #[mdV A.b A.s (.slice ca cn cc) (.slice fa fn fc), .bool true]) (by simp [results, Try.results36, go_sem, *]) rfl ⟨_, rfl, ?_⟩
  have h5 := (((HC.out.setBk [_] 0 (.int .i64 A.b)).setBk [_] 1 (.int .i64 A.s)).setBk [_] 2 (.slice ca cn cc)).setBk [_] 3 (.slice fa fn fc)
  exact h5.sub (l' := [_]) (List.Sublist.cons_cons _ (List.nil_sublist _))
end Go.Proofs.Ytabmmampgmcibaa.W
