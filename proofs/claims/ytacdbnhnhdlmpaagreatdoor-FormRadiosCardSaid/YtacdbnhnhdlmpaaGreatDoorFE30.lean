/- Texts joined: OpF Fop Ffo SamR Fun. -/
import Derived.Test.YtacdbnhnhdlmpaaGreatDoorFE29
import Derived.Test.YtacdbnhnhdlmpaaGreatDoorFE1
import Derived.Test.YtacdbnhnhdlmpaaGreatDoorFE20
import Derived.Lib.SmallJoins
import Derived.Deep.Slices
import Derived.Test.YtacdbnhnhdlmpaaGreatDoorFE24
import Derived.Test.YtacdbnhnhdlmpaaGreatDoorFE26
import Derived.Test.YtacdbnhnhdlmpaaGreatDoorFE6
import Derived.Test.YtacdbnhnhdlmpaaGreatDoorFE15
import Derived.Deep.RegionLaw
set_option maxRecDepth 100000
set_option maxHeartbeats 40000000
set_option linter.unusedVariables false
set_option linter.unusedSimpArgs false
section
namespace Go.Proofs.YtacdbnhnhdlmpaaGreatDoor.W
open Go.ChangeShapes Go.WideShapes Go.ChangeAt Go.RowKit Go.Joins Go.Deep
structure OpF where
  k : Nat
  a : Int
  b : Int
  s : List UInt8
structure OpF.In (o : OpF) : Prop where
  k : o.k ≤ 255
  a : -128 ≤ o.a ∧ o.a ≤ 127
  b : -128 ≤ o.b ∧ o.b ≤ 127
def zeroOf : OpF := ⟨0, 0, 0, []⟩
theorem zeroOf_in : zeroOf.In := ⟨by decide, by decide, by decide⟩
def InF (w : World) (A : Option Addr) (n : Nat) (f : Nat → OpF) : Prop := 0 < n → ∃ b off, A = some ⟨b, off, none⟩ ∧ b < w.heap.size ∧ ∀ j, j < n →
  w.cell? ⟨b, off + j * 4, none⟩ = some (.int .u8 ((f j).k : Int)) ∧ w.cell? ⟨b, off + j * 4 + 1, none⟩ = some (.int .i8 (f j).a) ∧ w.cell? ⟨b, off + j * 4 + 2, none⟩ = some (.int .i8 (f j).b) ∧ w.cell? ⟨b, off + j * 4 + 3, none⟩ = some (.string ⟨(f j).s.toArray⟩)
theorem InF.below {w w' : World} {A : Option Addr} {n : Nat} {f : Nat → OpF} (h : InF w A n f) (hb : Below w.heap.size w w') : InF w' A n f := fun hn => by
  obtain ⟨b, off, e, hl, hc⟩ := h hn
  exact ⟨b, off, e, Nat.lt_of_lt_of_le hl hb.size, fun j hj => let ⟨q0, q1, q2, q3⟩ := hc j hj; ⟨cell_keep hb q0, cell_keep hb q1, cell_keep hb q2, cell_keep hb q3⟩⟩
theorem byte_inF {x : Int} (h : (Lit.int .u8 x).wf = true) : 0 ≤ x ∧ x ≤ 255 := by
  have := bounds_u8 h
  omega
theorem byte_natF {x : Int} (h : (Lit.int .u8 x).wf = true) : x.toNat ≤ 255 ∧ ((x.toNat : Nat) : Int) = x := by
  have := byte_inF h
  omega
theorem str_listF (s : ByteArray) : (⟨s.data.toList.toArray⟩ : ByteArray) = s := by
  cases s; simp
section
variable {H : Type} {enc : TypeId × Value → H} {P : Program} {w : World}
theorem open_fops {r : Reach} {b0 : Nat} {t e : TypeId} {f0 f1 f2 f3 : Field} {v : Value} {d : DataW H} {ps : List MemPlace} (ht : P.underlying t = some (.slice e)) (he : P.underlying e = some (.struct #[f0, f1, f2, f3]))
    (hone : oneCellFields P #[f0, f1, f2, f3] = true) (hC : P.cellsOf e = 4) (e0 : P.underlying f0.type = some (.int .u8)) (e1 : P.underlying f1.type = some (.int .i8)) (e2 : P.underlying f2.type = some (.int .i8)) (e3 : P.underlying f3.type = some .string)
    (hval : Value.okWide P w r b0 t v) (h : DataW.Trod enc P w 0 (fun _ => true) true t v d ps) :
    ∃ A n c, ∃ f : Nat → OpF, v = .slice A n c ∧ n ≤ 9223372036854775807 ∧ InF w A n f ∧ ∀ j, (f j).In := by
  obtain ⟨A, n, c, rfl⟩ := okWide_slice ht hval
  obtain ⟨fuel, hf⟩ := h
  rcases open_slice ht hf with ⟨hcs, _⟩ | ⟨a, len, cap, m, k, D, Pl, hcs, _, hl, hmx, hm, _, hx⟩
  · simp [Value.cells] at hcs
    obtain ⟨rfl, rfl, rfl⟩ := hcs
    exact ⟨none, 0, 0, fun _ => zeroOf, rfl, Nat.zero_le _, fun h => absurd h (by omega), fun _ => zeroOf_in⟩
  · simp [Value.cells] at hcs
    obtain ⟨rfl, rfl, rfl⟩ := hcs
    simp only [if_true] at hm
    subst hm
    rw [hC] at hx
    have each : ∀ i, ∃ q : OpF, q.In ∧
        (i < n → w.cell? (a.add (i * 4)) = some (.int .u8 (q.k : Int)) ∧ w.cell? (a.add (i * 4 + 1)) = some (.int .i8 q.a) ∧ w.cell? (a.add (i * 4 + 2)) = some (.int .i8 q.b) ∧ w.cell? (a.add (i * 4 + 3)) = some (.string ⟨q.s.toArray⟩)) := by
      intro i
      by_cases hi : i < n
      · obtain ⟨cs, h1, h2⟩ := hx i (by omega)
        obtain ⟨_, hlen, hcell⟩ := World.cells?_some h1
        obtain ⟨o0, k0⟩ := hone_of hone 0 f0 rfl
        obtain ⟨o1, k1⟩ := hone_of hone 1 f1 rfl
        obtain ⟨o2, k2⟩ := hone_of hone 2 f2 rfl
        obtain ⟨o3, k3⟩ := hone_of hone 3 f3 rfl
        obtain ⟨xs, k', _, _, _, hxl, hg⟩ := DataW.trod_struct he h2
        match xs, hxl, cs, hlen with
        | [y0, y1, y2, y3], _, [v0, v1, v2, v3], _ =>
          have g0 := hg 0 f0 rfl
          have g1 := hg 1 f1 rfl
          have g2 := hg 2 f2 rfl
          have g3 := hg 3 f3 rfl
          simp [o0, o1, o2, o3, k0, k1, k2, k3] at g0 g1 g2 g3
          obtain ⟨x0, z0, _, w0⟩ := DataW.trod_int e0 g0
          obtain ⟨x1, z1, _, w1⟩ := DataW.trod_int e1 g1
          obtain ⟨x2, z2, _, w2⟩ := DataW.trod_int e2 g2
          obtain ⟨x3, z3, _⟩ := DataW.trod_string e3 g3
          simp at z0 z1 z2 z3
          subst z0 z1 z2 z3
          obtain ⟨r0, r0'⟩ := byte_natF w0
          refine ⟨⟨x0.toNat, x1, x2, x3.data.toList⟩, ⟨r0, bounds_i8 w1, bounds_i8 w2⟩, fun _ => ?_⟩
          simp only [r0', str_listF]
          refine ⟨?_, ?_, ?_, ?_⟩
          · have := hcell 0 (by omega); simpa [Addr.add] using this
          · have := hcell 1 (by omega); rw [Go.Deep.add_add] at this; simpa using this
          · have := hcell 2 (by omega); rw [Go.Deep.add_add] at this; simpa using this
          · have := hcell 3 (by omega); rw [Go.Deep.add_add] at this; simpa using this
      · exact ⟨zeroOf, zeroOf_in, fun h => absurd h hi⟩
    obtain ⟨F, hF⟩ := Classical.axiomOfChoice each
    refine ⟨some a, n, _, F, rfl, by unfold maxLen at hmx; omega, fun hn => ?_, fun j => (hF j).1⟩
    have hc := fun i hi => (hF i).2 hi
    clear hF each
    obtain ⟨b, off, el⟩ := a
    have h0 := (hc 0 hn).1
    have hel : el = none := by simpa [Addr.add] using World.cell?_spot h0
    subst hel
    refine ⟨b, off, rfl, ?_, fun i hi => ?_⟩
    · have := World.block_lt_of_cell? _ _ h0
      rw [Go.WideShapes.add_plain] at this
      exact this
    · obtain ⟨q0, q1, q2, q3⟩ := hc i hi
      rw [Go.WideShapes.add_plain] at q0 q1 q2 q3
      exact ⟨q0, q1, q2, q3⟩
end
def FewF (x : List UInt8) (n : Nat) (f : Nat → OpF) (w : World) (e : Ending) (w' : World) : Prop := ∃ b : Bool, e = .returned (.bool b) ∧ (b = true → x.length ≤ 60 ∧ n ≤ 150 ∧ ∀ j, j < n → (f j).s.length ≤ 20) ∧ w' = w
set_option maxRecDepth 100000 in
set_option maxHeartbeats 4000000 in
theorem few_any {w : World} (x : List UInt8) (hxl : (⟨x.toArray⟩ : ByteArray).size ≤ 9223372036854775807) (A : Option Addr) (n c : Nat) (f : Nat → OpF) (h : InF w A n f) (hn : n ≤ 9223372036854775807) :
    Calls Tryz.prog 13 #[.string ⟨x.toArray⟩, .slice A n c] w (FewF x n f w) := by
  have H := Lib.hid h
  clear h
  have hxs : (⟨x.toArray⟩ : ByteArray).size = x.length := by simp [ByteArray.size]
  go_enter Tryz.func13, Tryz.ntmps13
  go_wp2_with fail
  go_loop [8] (fun iv => ∃ k : Nat, k ≤ n ∧ iv = .int .i64 (k : Int) ∧ ∀ j, j < k → (f j).s.length ≤ 20) (fun iv => n - (intOf iv).toNat)
  case atStart => exact ⟨0, Nat.zero_le _, rfl, fun j hj => absurd hj (Nat.not_lt_zero j)⟩
  case round =>
    obtain ⟨k, hkn, rfl, hS⟩ := hrel
    have HS := Lib.hid hS
    clear hS
    by_cases hkl : k < n
    · obtain ⟨b, off, rfl, hb, hc⟩ := H.out (by omega)
      obtain ⟨_, _, _, q3⟩ := hc k hkl
      have hs1 : (⟨(f k).s.toArray⟩ : ByteArray).size = (f k).s.length := by simp [ByteArray.size]
      by_cases hl : (f k).s.length ≤ 20
      · have hd : decide ((20 : Int) < (((⟨(f k).s.toArray⟩ : ByteArray).size : Nat) : Int)) = false := by rw [hs1]; simp; omega
        have HLl := Lib.hid hl
        clear hc hs1 hl
        generalize (⟨(f k).s.toArray⟩ : ByteArray) = sv at *
        go_wp2_with fail
        go_round
        case rel =>
          refine ⟨k + 1, by omega, by go_num, fun j hj => ?_⟩
          by_cases e : j = k
          · subst e; exact HLl.out
          · exact HS.out j (by omega)
        case measure => simp [intOf]; omega
      · have hd : decide ((20 : Int) < (((⟨(f k).s.toArray⟩ : ByteArray).size : Nat) : Int)) = true := by rw [hs1]; simp; omega
        clear hc hs1 hl
        generalize (⟨(f k).s.toArray⟩ : ByteArray) = sv at *
        go_wp2_with fail
        go_ret
        exact ⟨false, rfl, fun e => (by cases e), rfl⟩
    · obtain rfl : k = n := by omega
      by_cases h1 : x.length ≤ 60
      · have hd1 : decide ((((⟨x.toArray⟩ : ByteArray).size : Nat) : Int) ≤ 60) = true := by rw [hxs]; simp; omega
        by_cases h2 : k ≤ 150
        · have hd2 : decide ((k : Int) ≤ 150) = true := by simp; omega
          generalize (⟨x.toArray⟩ : ByteArray) = xv at *
          go_wp2_with fail
          go_ret
          exact ⟨true, rfl, fun _ => ⟨h1, h2, HS.out⟩, rfl⟩
        · have hd2 : decide ((k : Int) ≤ 150) = false := by simp; omega
          generalize (⟨x.toArray⟩ : ByteArray) = xv at *
          go_wp2_with fail
          go_ret
          exact ⟨false, rfl, fun e => (by cases e), rfl⟩
      · have hd1 : decide ((((⟨x.toArray⟩ : ByteArray).size : Nat) : Int) ≤ 60) = false := by rw [hxs]; simp; omega
        generalize (⟨x.toArray⟩ : ByteArray) = xv at *
        go_wp2_with fail
        go_ret
        exact ⟨false, rfl, fun e => (by cases e), rfl⟩
end Go.Proofs.YtacdbnhnhdlmpaaGreatDoor.W
end
section
namespace Go.Proofs.YtacdbnhnhdlmpaaGreatDoor.W
open Go.RowKit
def FT.op (ar : Bool) (F : FT) (o : OpF) : FT :=
  if o.k % 8 < 2 then F.ins (cleanL ar o.s) else if o.k % 8 = 2 then F.sel o.a o.b else if o.k % 8 = 3 then F.del true else if o.k % 8 = 4 then F.del false
  else if o.k % 8 = 5 then F.back else if o.k % 8 = 6 then F.forth else F.set (cleanL ar o.s)
def RE.op (ar : Bool) (E : RE) (o : OpF) : RE :=
  if o.k % 8 < 2 then E.ins (cleanL ar o.s) else if o.k % 8 = 2 then E.sel o.a o.b else if o.k % 8 = 3 then E.del true else if o.k % 8 = 4 then E.del false
  else if o.k % 8 = 5 then E.back else if o.k % 8 = 6 then E.forth else E.set (cleanL ar o.s)
theorem Ag.op {N : Nat} {F : FT} {E : RE} (h : Ag N F E) (ar : Bool) (o : OpF) (hs : o.s.length ≤ 20) (h80 : 80 ≤ N) : Ag (N + 80) (F.op ar o) (E.op ar o) := by
  have hc := clean_vd ar o.s
  have hl := clean_len ar o.s
  unfold FT.op RE.op
  split
  · exact h.ins hc (by omega)
  · split
    · exact (h.sel _ _).mono (by omega)
    · split
      · exact (h.del true).mono (by omega)
      · split
        · exact (h.del false).mono (by omega)
        · split
          · exact h.back.1.mono (by omega)
          · split
            · exact h.forth.1.mono (by omega)
            · have hx : (cleanL ar o.s).length ≤ N := by omega
              exact (h.set hc hx).mono (by omega)
def FT.ops (ar : Bool) (F : FT) (f : Nat → OpF) : Nat → FT
  | 0 => F
  | k + 1 => (F.ops ar f k).op ar (f k)
def RE.ops (ar : Bool) (E : RE) (f : Nat → OpF) : Nat → RE
  | 0 => E
  | k + 1 => (E.ops ar f k).op ar (f k)
theorem Ag.ops {N : Nat} {F : FT} {E : RE} (h : Ag N F E) (ar : Bool) (f : Nat → OpF) (h80 : 80 ≤ N) (k : Nat) (hs : ∀ j, j < k → (f j).s.length ≤ 20) : Ag (N + 80 * k) (F.ops ar f k) (E.ops ar f k) := by
  induction k with
  | zero => exact h
  | succ k ih => exact (ih (fun j hj => hs j (by omega))).op ar (f k) (hs k (by omega)) (by omega)
section
variable {B : Nat} {w0 w : World} {Q R N : Nat} {foc hd : Int} {l : List Ob} {O : Ob} {k : Nat} {v : List UInt8} {F : FT}
def FdTo (B : Nat) (w0 : World) (Q : Nat) (foc hd : Int) (l : List Ob) (F : FT) (w : World) (e : Ending) : Prop :=
  (F.undo = [] ∧ F.redo = [] ∧ e = .returned (.pointer none)) ∨ ∃ g ua uc ra rc, e = .returned (.pointer (some ⟨g, 0, none⟩)) ∧ w.cell? ⟨g, 7, none⟩ = some (.slice ua F.undo.length uc) ∧ w.cell? ⟨g, 8, none⟩ = some (.slice ra F.redo.length rc) ∧
    ((F.undo ≠ [] ∨ F.redo ≠ []) → ∃ cap tc ck u r, All B w0 (oneL Q g cap foc ⟨hd, true, tc, ck, F, u, r⟩ ++ (edO u r F ++ l)) w)
theorem find_one (h : FsAt B w0 Q foc hd v l F w) : Calls Tryz.prog 58 #[.pointer (some ⟨Q, 0, none⟩), .int .i64 hd] w fun e w' => w = w' ∧ FdTo B w0 Q foc hd l F w e := by
  obtain ⟨fa, X, u, r, h1, h2, h3, h4, h5⟩ := h
  refine (find_any h5 hd (by have := h1.one.len; omega)).mono ?_
  rintro e w' ⟨rfl, rfl⟩
  refine ⟨rfl, ?_⟩
  cases hf : fixX X hd with
  | none =>
    refine .inl ?_
    have hft : ftX X hd v = FT.of v := by unfold ftX; rw [(fix_none hf).2]; rfl
    rw [← h2, hft]
    exact ⟨rfl, rfl, rfl⟩
  | some i =>
    have hR := h5
    obtain ⟨ua, uc, hu, _⟩ : ∃ a cap, u = .slice a F.undo.length cap ∧ F.undo.length ≤ cap := (show Ro w 126 5 u F.undo.length (rows encE F.undo) from h5.P (ro 126 5 u F.undo.length (rows encE F.undo)) (by simp [edO])).shape
    obtain ⟨ra, rc, hr, _⟩ : ∃ a cap, r = .slice a F.redo.length cap ∧ F.redo.length ≤ cap := (show Ro w 126 5 r F.redo.length (rows encE F.redo) from h5.P (ro 126 5 r F.redo.length (rows encE F.redo)) (by simp [edO])).shape
    obtain ⟨x, rfl, hx⟩ : ∃ x, X = [x] ∧ x.node = hd := by
      rcases h1.one with rfl | h
      · have := (fix_some hf).1; simp at this
      · exact h
    obtain rfl : i = 0 := by have := (fix_some hf).1; simp at this; exact this
    have hg : getX [x] hd = x := (Option.some.inj (fix_some hf).2.1).symm
    obtain ⟨g, cap, rfl, he, hc⟩ := get_cell h5 hf
    have c7 := (hc 7 (by omega)).1
    have c8 := (hc 8 (by omega)).1
    rw [hg] at c7 c8 h3 h4
    rw [show (fxC x)[7]? = some x.uv from rfl, h3, hu] at c7
    rw [show (fxC x)[8]? = some x.rv from rfl, h4, hr] at c8
    refine .inr ⟨g, ua, uc, ra, rc, rfl, by simpa using c7, by simpa using c8, fun hne => ?_⟩
    have hd' : x.dirty = true := by
      cases e : x.dirty with
      | true => rfl
      | false =>
        have hft : ftX [x] hd v = FT.of v := by unfold ftX; rw [hg, e]; rfl
        rw [hft] at h2
        rw [← h2] at hne
        rcases hne with h | h <;> exact absurd rfl h
    have ht : x.t = F := by rw [← h2]; unfold ftX; rw [hg, hd']; rfl
    obtain ⟨xn, xd, xt, xc, xF, xu, xr⟩ := x
    simp only at hx hd' ht h3 h4
    subst hx hd' ht h3 h4
    exact ⟨cap, xt, xc, xu, xr, by rw [oneL_fs]; exact h5⟩
set_option maxRecDepth 100000 in
set_option maxHeartbeats 4000000 in
theorem undo_no (h : FsAt B w0 Q foc hd v l F w) (hO : O ∈ l) (hF : FdOk B w0 R O hd k v) (hk : k = 1 ∨ k = 2) (hu : F.undo = []) :
    Calls Tryz.prog 21 #[.pointer (some ⟨Q, 0, none⟩), .pointer (some ⟨R, 0, none⟩), .int .i64 hd] w fun e w' => e = .returned (.tuple #[.bool false, .int .i64 0]) ∧ Below w.heap.size w w' := by
  have HK := Lib.hid (hF.kindA hO h.rest)
  have HW := Lib.hid (written_yes hk)
  have HFd := Lib.hid (fun wx (hb : Below w.heap.size w wx) => find_one (h.still hb))
  clear h hF hO
  go_enter Tryz.func21, Tryz.ntmps21
  go_wp2_with fail
  refine HK.out.mono ?_
  rintro e w1 ⟨rfl, hb1⟩
  go_wp2_with fail
  refine (HW.out _).mono ?_
  rintro e w2 ⟨rfl, hw⟩
  subst hw
  go_wp2_with fail
  refine (HFd.out _ hb1).mono ?_
  rintro e w2 ⟨rfl, ⟨_, _, rfl⟩ | ⟨g, ua, uc, ra, rc, rfl, c7, c8, _⟩⟩
  · go_wp2_with fail
    go_ret2
    exact ⟨rfl, hb1⟩
  · rw [hu, List.length_nil] at c7
    go_wp2_with fail
    go_ret2
    exact ⟨rfl, hb1⟩
set_option maxRecDepth 100000 in
set_option maxHeartbeats 4000000 in
theorem redo_no (h : FsAt B w0 Q foc hd v l F w) (hO : O ∈ l) (hF : FdOk B w0 R O hd k v) (hk : k = 1 ∨ k = 2) (hu : F.redo = []) :
    Calls Tryz.prog 22 #[.pointer (some ⟨Q, 0, none⟩), .pointer (some ⟨R, 0, none⟩), .int .i64 hd] w fun e w' => e = .returned (.tuple #[.bool false, .int .i64 0]) ∧ Below w.heap.size w w' := by
  have HK := Lib.hid (hF.kindA hO h.rest)
  have HW := Lib.hid (written_yes hk)
  have HFd := Lib.hid (fun wx (hb : Below w.heap.size w wx) => find_one (h.still hb))
  clear h hF hO
  go_enter Tryz.func22, Tryz.ntmps22
  go_wp2_with fail
  refine HK.out.mono ?_
  rintro e w1 ⟨rfl, hb1⟩
  go_wp2_with fail
  refine (HW.out _).mono ?_
  rintro e w2 ⟨rfl, hw⟩
  subst hw
  go_wp2_with fail
  refine (HFd.out _ hb1).mono ?_
  rintro e w2 ⟨rfl, ⟨_, _, rfl⟩ | ⟨g, ua, uc, ra, rc, rfl, c7, c8, _⟩⟩
  · go_wp2_with fail
    go_ret2
    exact ⟨rfl, hb1⟩
  · rw [hu, List.length_nil] at c8
    go_wp2_with fail
    go_ret2
    exact ⟨rfl, hb1⟩
end
theorem reg_f {P : Program} {id : Nat} {Q' : Exit → Act → World → Prop} {a : Act} {w : World} {ls : List Oper} (F : List Value → World → Prop) (V : List Value → Value → Prop) (m : Nat)
    (hm : P.follows .mixedOrders = true) (hB : all4 .any ls.toArray m (ls.length - m) = true) (hF : ∀ k w1 w2, F k w1 → Below w1.heap.size w1 w2 → F k w2) (h0 : F [] w)
    (h : RV.wp4 P ls.toArray ⟨StB w, fun k X w' => StB w w' ∧ F k w', V, fun _ _ => undef, fun _ => [], fun _ => 0⟩ (fun k X a' => ∀ w', StB w w' → F k w' → wpList P ls.toArray Q' (ls.drop m) a' w') 0 [] [] (ls.take m) a) : (Code.region id ls.toArray true).wp P Q' a w :=
  RV.reg_m ⟨StB w, fun k X w' => StB w w' ∧ F k w', V, fun _ _ => undef, fun _ => [], fun _ => 0⟩ m hm hB (fun k X w h => h.1) (fun k X w' cs ty h => ⟨bthen h.1 ((Below.refl _ _).alloc (Nat.le_refl _) _), hF k _ _ h.2 ((Below.refl _ _).alloc (Nat.le_refl _) _)⟩) (fun k X Y w hp h => h) ⟨(Below.refl _ _).drew, hF [] _ _ h0 ((Below.refl _ _).drew)⟩ (by
    refine cast ?_ h
    congr 1
    funext k X a'
    exact propext ⟨fun g w' hw => g w' hw.1 hw.2, fun g w' h1 h2 => g w' ⟨h1, h2⟩⟩)
section
variable {B : Nat} {w0 w : World} {Q R N : Nat} {foc hd : Int} {l : List Ob} {O : Ob} {k : Nat} {v : List UInt8} {F : FT}
set_option maxRecDepth 100000 in
set_option maxHeartbeats 16000000 in
theorem undo_one (h : FsAt B w0 Q foc hd v l F w) (hO : O ∈ l) (hF : FdOk B w0 R O hd k v) (hk : k = 1 ∨ k = 2) (hL : ∀ wx, Below B w0 wx → Laid wx) (hok : FOk N F) (hN : N ≤ 900000) (us : List FE) (x : FE) (hu : F.undo = us ++ [x])
    (hxa : x.at_ + nL x.new ≤ nL F.val) (hxn : x.new.length ≤ 1000000) (hxo : x.old.length ≤ 1000000) :
    Calls Tryz.prog 21 #[.pointer (some ⟨Q, 0, none⟩), .pointer (some ⟨R, 0, none⟩), .int .i64 hd] w fun e w' => e = .returned (.tuple #[.bool true, .int .i64 0]) ∧ FsAt B w0 Q foc hd v l F.back w' := by
  have hn := hok.n
  have hfew := hok.few
  have hnl := nL_le F.val
  have hbk : F.back = ⟨cutL F.val 0 x.at_ ++ (x.old ++ cutL F.val (x.at_ + nL x.new) (nL F.val)), x.st, x.en, us, F.redo ++ [x]⟩ := by
    unfold FT.back
    rw [hu, List.getLast?_concat, List.dropLast_concat]
  have HBk := Lib.hid hbk
  have HK := Lib.hid (hF.kindA hO h.rest)
  have HW := Lib.hid (written_yes hk)
  have HFd := Lib.hid (fun wx (hb : Below w.heap.size w wx) => find_one (h.still hb))
  have HLw := Lib.hid (fun wx (hb : Below B w0 wx) => hL wx hb)
  have hpre : sliceF F.val 0 (x.at_ : Int) = cutL F.val 0 x.at_ := slice_cut hok.vd (Nat.zero_le _) (by omega)
  have hpost : sliceF F.val ((x.at_ : Int) + (nL x.new : Int)) (nL F.val : Int) = cutL F.val (x.at_ + nL x.new) (nL F.val) := by
    have := slice_cut hok.vd (a := x.at_ + nL x.new) (b := nL F.val) (by omega) (Nat.le_refl _)
    rwa [Int.natCast_add] at this
  have hul : F.undo.length = us.length + 1 := by rw [hu]; simp
  have hux : F.undo[us.length]? = some x := by rw [hu]; simp
  clear h hF hO hbk hL
  go_enter Tryz.func21, Tryz.ntmps21
  go_wp2_with fail
  refine HK.out.mono ?_
  rintro e w1 ⟨rfl, hb1⟩
  go_wp2_with fail
  refine (HW.out _).mono ?_
  rintro e w2 ⟨rfl, hw⟩
  subst hw
  go_wp2_with fail
  refine (HFd.out _ hb1).mono ?_
  rintro e w2 ⟨rfl, ⟨e1, _, _⟩ | ⟨g, ua, uc, ra, rc, rfl, c7, c8, hall⟩⟩
  · rw [e1] at hul; simp at hul
  obtain ⟨cap, tc, ck, u, r, hA⟩ := hall (.inl (fun e => by rw [e] at hul; simp at hul))
  have f7 := one_cell hA (j := 7) (by omega)
  rw [show (fxC ⟨hd, true, tc, ck, F, u, r⟩)[7]? = some u from rfl, c7] at f7
  obtain rfl : u = .slice ua F.undo.length uc := (Option.some.inj f7.1).symm
  have f8 := one_cell hA (j := 8) (by omega)
  rw [show (fxC ⟨hd, true, tc, ck, F, .slice ua F.undo.length uc, r⟩)[8]? = some r from rfl, c8] at f8
  obtain rfl : r = .slice ra F.redo.length rc := (Option.some.inj f8.1).symm
  obtain ⟨ug, uo, uc', he, huc, hcl⟩ := Ro.at_ (show Ro w2 126 5 (.slice ua F.undo.length uc) F.undo.length (rows encE F.undo) from hA.P (ro 126 5 (.slice ua F.undo.length uc) F.undo.length (rows encE F.undo)) (by simp [edO])) (by omega)
  cases he
  have hp : ∀ j, j < 5 → w2.cell? ⟨ug, uo + us.length * 5 + j, none⟩ = (encE x)[j]? := fun j hj => by
    have := hcl (us.length * 5 + j) (by omega)
    rw [rows_at (enc := encE) encE_len _ _ _ hux j hj, ← Nat.add_assoc] at this
    exact this
  have p0 := hp 0 (by omega)
  have p1 := hp 1 (by omega)
  have p2 := hp 2 (by omega)
  have p3 := hp 3 (by omega)
  have p4 := hp 4 (by omega)
  simp only [encE, List.getElem?_cons_succ, List.getElem?_cons_zero, strV, Nat.add_zero] at p0 p1 p2 p3 p4
  rw [hul] at c7 huc
  have hlen : (((us.length : Int) + 1) == 0) = false := by simp; omega
  have HA := Lib.hid hA
  have hgl : g < w2.heap.size := own_lt (show Own w2 119 9 (.slice (some ⟨g, 0, none⟩) 1 cap) 1 _ from hA.tail.head) (k := g) rfl
  have hne : ¬ w2.heap.size = g := by omega
  have hul2 : us.length ≤ 100 := by omega
  clear hall hA hcl hp hb1 HK HW HFd
  have hB2 : All B w0 (oneL Q g cap foc ⟨hd, true, tc, ck, F, .slice (some ⟨ug, uo, none⟩) F.undo.length uc, .slice ra F.redo.length rc⟩ ++ ro 126 5 (.slice (some ⟨ug, uo, none⟩) F.undo.length uc) F.undo.length (rows encE F.undo) :: (ro 126 5 (.slice ra F.redo.length rc) F.redo.length (rows encE F.redo) :: l)) w2 := HA.out
  have hB3 := All.roCut _ hB2 (m := us.length) (by omega)
  rw [rows_take encE_len, show F.undo.take us.length = us by rw [hu]; simp] at hB3
  have hB5 := one_set hB3 ⟨hd, true, tc, ck, { F with undo := us }, .slice (some ⟨ug, uo, none⟩) us.length us.length, .slice ra F.redo.length rc⟩ 7 (.slice (some ⟨ug, uo, none⟩) us.length us.length) rfl
  have hB6 := (hB5.newBkA w2.heap.size (by simp [World.setCell]) (encE x) 126).perm (List.perm_append_comm_assoc [_] [_, _, _, _] l)
  have hB4 : All B w0 (oneL Q g cap foc ⟨hd, true, tc, ck, { F with undo := us }, .slice (some ⟨ug, uo, none⟩) us.length us.length, .slice ra F.redo.length rc⟩ ++ ro 126 5 (.slice (some ⟨ug, uo, none⟩) us.length us.length) us.length (rows encE us) :: (ro 126 5 (.slice ra F.redo.length rc) F.redo.length (rows encE F.redo) :: (bk w2.heap.size (encE x) 126 :: l))) ((w2.setCell ⟨g, 7, none⟩ (.slice (some ⟨ug, uo, none⟩) us.length us.length)).alloc (.cells #[.int .i64 (x.at_ : Int), .string ⟨x.old.toArray⟩, .string ⟨x.new.toArray⟩, .int .i64 (x.st : Int), .int .i64 (x.en : Int)] 126)) := hB6
  clear hB5 hB6
  have HB := Lib.hid hB4
  clear hB2 hB3 hB4 HA
  go_upto_region 9 with fail
  have HB' := Lib.hid HB.out
  clear HB
  generalize hgb : w2.heap.size = gb at *
  generalize (w2.setCell ⟨g, 7, none⟩ (.slice (some ⟨ug, uo, none⟩) us.length us.length)).alloc (.cells #[.int .i64 (x.at_ : Int), .string ⟨x.old.toArray⟩, .string ⟨x.new.toArray⟩, .int .i64 (x.st : Int), .int .i64 (x.en : Int)] 126) = w3 at *
  have hkb : Blk w3 gb (encE x) 126 := HB'.out.P (bk gb (encE x) 126) (by simp [oneL])
  have q0 := hkb.cell 0
  have q1 := hkb.cell 1
  have q2 := hkb.cell 2
  have q3 := hkb.cell 3
  have q4 := hkb.cell 4
  simp only [encE, List.getElem?_cons_succ, List.getElem?_cons_zero, strV] at q0 q1 q2 q3 q4
  have hgbl := hkb.lt
  obtain ⟨d8, g8⟩ := one_cell HB'.out (j := 8) (by omega)
  rw [show (fxC ⟨hd, true, tc, ck, { F with undo := us }, .slice (some ⟨ug, uo, none⟩) us.length us.length, .slice ra F.redo.length rc⟩)[8]? = some (.slice ra F.redo.length rc) from rfl] at d8
  have hgl3 : g < w3.heap.size := own_lt (show Own w3 119 9 (.slice (some ⟨g, 0, none⟩) 1 cap) 1 _ from HB'.out.tail.head) (k := g) rfl
  have hrl : F.redo.length ≤ 100 := by omega
  have T1 := Lib.hid ((HB'.out.alloc (.cells (encE x).toArray 126)).drew)
  have T2 := Lib.hid (own_at (w := (w3.alloc (.cells (encE x).toArray 126)).drew) (g := w3.heap.size) (n := 1) (size := 5) (show Blk _ _ _ _ from Blk.new w3 (encE x) 126) rfl (by omega))
  have T3 := Lib.hid (encE_one x)
  have ea : ∀ o, (w3.alloc o).cell? ⟨g, 8, none⟩ = some (.slice ra F.redo.length rc) := fun o => (World.cell?_alloc_lt _ _ _ hgl3).trans d8
  clear c7 c8 f7 f8 p0 p1 p2 p3 p4 hkb hne hgl hgb
  go_cut [] (fun wx => ∃ va vc, All B w0 (oneL Q g cap foc ⟨hd, true, tc, ck, { F with undo := us, redo := F.redo ++ [x] }, .slice (some ⟨ug, uo, none⟩) us.length us.length, .slice va (F.redo.length + 1) vc⟩ ++ ro 126 5 (.slice (some ⟨ug, uo, none⟩) us.length us.length) us.length (rows encE us) :: (ro 126 5 (.slice va (F.redo.length + 1) vc) (F.redo.length + 1) (rows encE (F.redo ++ [x])) :: (bk gb (encE x) 126 :: l))) wx)
  case first =>
    go_region_law (refine step_append_roA etE (oneL Q g cap foc ⟨hd, true, tc, ck, { F with undo := us }, .slice (some ⟨ug, uo, none⟩) us.length us.length, .slice ra F.redo.length rc⟩ ++ [ro 126 5 (.slice (some ⟨ug, uo, none⟩) us.length us.length) us.length (rows encE us)]) T1.out T2.out (by omega) T3.out (by omega) (by omega) (by rfl) _ _ (by rfl) (by rfl) (by rfl) ?_; intro v' w5 hA5; obtain ⟨va, vc, rfl, _⟩ := (show Ro w5 126 5 v' (F.redo.length + 1) _ from hA5.mid).shape; have HA5 := Lib.hid hA5; obtain ⟨k8, f8⟩ := one_cell hA5 (j := 8) (by omega); rw [show (fxC ⟨hd, true, tc, ck, { F with undo := us }, .slice (some ⟨ug, uo, none⟩) us.length us.length, .slice ra F.redo.length rc⟩)[8]? = some (.slice ra F.redo.length rc) from rfl] at k8; clear hA5)
    all_goals
      go_wp2_with fail
      go_meet
      refine ⟨va, vc, ?_⟩
      have h9 := HA5.out
      rw [← rows_snoc (enc := encE)] at h9
      exact one_set h9 ⟨hd, true, tc, ck, { F with undo := us, redo := F.redo ++ [x] }, .slice (some ⟨ug, uo, none⟩) us.length us.length, .slice va (F.redo.length + 1) vc⟩ 8 (.slice va (F.redo.length + 1) vc) rfl
  case rest =>
    go_upto_region 10 with fail
    obtain ⟨va, vc, hA⟩ := hcut
    clear HB' T1 T2 T3 ea q0 q1 q2 q3 q4 d8 g8
    have hkb : Blk wc gb (encE x) 126 := hA.P (bk gb (encE x) 126) (by simp [oneL])
    have hne := stb_ne wc
    have HA := Lib.hid hA
    have y2 := fun (z : InS (StB wc)) => (one_cell (HA.out.still z.h) (j := 2) (by omega)).1
    have b0 := fun (z : InS (StB wc)) => (hkb.below z.h).cell 0
    have b1 := fun (z : InS (StB wc)) => (hkb.below z.h).cell 1
    have b2 := fun (z : InS (StB wc)) => (hkb.below z.h).cell 2
    simp only [fxC, encE, strV, List.getElem?_cons_succ, List.getElem?_cons_zero] at y2 b0 b1 b2
    have HKb := Lib.hid hkb
    have HLa : ∀ wx, Below wc.heap.size wc wx → Laid wx := fun wx hb => HLw.out wx (HA.out.below.trans (hb.mono HA.out.le))
    have HSl := Lib.hid (fun (a b : Int) wx (hb : Below wc.heap.size wc wx) => slice_any F.val a b wx (by omega) (HLa wx hb))
    have HLe := Lib.hid (fun wx => len_n F.val wx (by omega))
    have HLn := Lib.hid (fun wx => len_n x.new wx (by omega))
    clear hA hkb HLa
    have hc1 := cut_len F.val 0 x.at_
    have hc2 := cut_len F.val (x.at_ + nL x.new) (nL F.val)
    generalize cutL F.val 0 x.at_ = pre at *
    generalize cutL F.val (x.at_ + nL x.new) (nL F.val) = post at *
    have hs1 : ¬ 9223372036854775807 < pre.length + x.old.length := by omega
    have hs2 : ¬ 9223372036854775807 < pre.length + x.old.length + post.length := by omega
    refine reg_f (fun _ _ => True) (fun k v => v = if k.length = 0 then .string ⟨pre.toArray⟩ else if k.length = 1 then .int .i64 (nL x.new : Int) else if k.length = 2 then .int .i64 (nL F.val : Int) else .string ⟨post.toArray⟩) 28 (by kernel_rfl) (by kernel_rfl) (fun _ _ _ _ _ => trivial) trivial ?_
    simp only [List.take_succ_cons, List.take_zero, List.drop_succ_cons, List.drop_zero]
    repeat (first
      | (refine RV.m_held (by rfl) (by rfl) (fun K hK => ?_); go_big_quiet_step (fail); refine wpQuiet_nil ?_; refine hK.out _ ?_; clear hK K)
      | (refine RV.m_skip (by rfl) ?_; simp only [Act.put, List.setIfInBounds_toArray, List.set_cons_zero, List.set_cons_succ]))
    refine RV.m_call (by rfl) (by rfl) (fun w => by go_simp; exact ⟨rfl, rfl⟩) (⟨_, rfl⟩) (fun X wx hx => ?_) (fun v hv => ?_)
    · refine (HSl.out _ _ _ hx.1).mono ?_
      rintro e wy ⟨rfl, hb⟩
      rw [hpre]
      exact ⟨_, rfl, by simp, bthen hx.1 hb, trivial⟩
    obtain rfl : v = .string ⟨pre.toArray⟩ := by simpa using hv
    clear hv
    simp only [Act.put, List.setIfInBounds_toArray, List.set_cons_zero, List.set_cons_succ]
    repeat (first
      | (refine RV.m_held (by rfl) (by rfl) (fun K hK => ?_); go_big_quiet_step (fail); refine wpQuiet_nil ?_; refine hK.out _ ?_; clear hK K)
      | (refine RV.m_skip (by rfl) ?_; simp only [Act.put, List.setIfInBounds_toArray, List.set_cons_zero, List.set_cons_succ]))
    refine RV.m_call (by rfl) (by rfl) (fun w => by go_simp; exact ⟨rfl, rfl⟩) (⟨_, rfl⟩) (fun X wx hx => ?_) (fun v hv => ?_)
    · refine (HLn.out _).mono ?_
      rintro e wy ⟨rfl, hb⟩
      exact ⟨_, rfl, by simp, bthen hx.1 hb, trivial⟩
    obtain rfl : v = .int .i64 (nL x.new : Int) := by simpa using hv
    clear hv
    simp only [Act.put, List.setIfInBounds_toArray, List.set_cons_zero, List.set_cons_succ]
    repeat (first
      | (refine RV.m_held (by rfl) (by rfl) (fun K hK => ?_); go_big_quiet_step (fail); refine wpQuiet_nil ?_; refine hK.out _ ?_; clear hK K)
      | (refine RV.m_skip (by rfl) ?_; simp only [Act.put, List.setIfInBounds_toArray, List.set_cons_zero, List.set_cons_succ]))
    refine RV.m_call (by rfl) (by rfl) (fun w => by go_simp; exact ⟨rfl, rfl⟩) (⟨_, rfl⟩) (fun X wx hx => ?_) (fun v hv => ?_)
    · refine (HLe.out _).mono ?_
      rintro e wy ⟨rfl, hb⟩
      exact ⟨_, rfl, by simp, bthen hx.1 hb, trivial⟩
    obtain rfl : v = .int .i64 (nL F.val : Int) := by simpa using hv
    clear hv
    simp only [Act.put, List.setIfInBounds_toArray, List.set_cons_zero, List.set_cons_succ]
    repeat (first
      | (refine RV.m_held (by rfl) (by rfl) (fun K hK => ?_); go_big_quiet_step (fail); refine wpQuiet_nil ?_; refine hK.out _ ?_; clear hK K)
      | (refine RV.m_skip (by rfl) ?_; simp only [Act.put, List.setIfInBounds_toArray, List.set_cons_zero, List.set_cons_succ]))
    refine RV.m_call (by rfl) (by rfl) (fun w => by go_simp; exact ⟨rfl, rfl⟩) (⟨_, rfl⟩) (fun X wx hx => ?_) (fun v hv => ?_)
    · refine (HSl.out _ _ _ hx.1).mono ?_
      rintro e wy ⟨rfl, hb⟩
      rw [hpost]
      exact ⟨_, rfl, by simp, bthen hx.1 hb, trivial⟩
    obtain rfl : v = .string ⟨post.toArray⟩ := by simpa using hv
    clear hv
    simp only [Act.put, List.setIfInBounds_toArray, List.set_cons_zero, List.set_cons_succ]
    repeat (first
      | (refine RV.m_held (by rfl) (by rfl) (fun K hK => ?_); go_big_quiet_step (fail); refine wpQuiet_nil ?_; refine hK.out _ ?_; clear hK K)
      | (refine RV.m_skip (by rfl) ?_; simp only [Act.put, List.setIfInBounds_toArray, List.set_cons_zero, List.set_cons_succ]))
    refine RV.m_nil ?_
    intro w5 hb5 _
    have hA5 := HA.out.still hb5
    have hk5 := HKb.out.below hb5
    have z3 := hk5.cell 3
    have z4 := hk5.cell 4
    simp only [encE, List.getElem?_cons_succ, List.getElem?_cons_zero] at z3 z4
    obtain ⟨c2, f2⟩ := one_cell hA5 (j := 2) (by omega)
    obtain ⟨c5, f5⟩ := one_cell hA5 (j := 5) (by omega)
    obtain ⟨c6, f6⟩ := one_cell hA5 (j := 6) (by omega)
    have hgb : ¬ g = gb := fun e => by
      have hs : Own w5 119 9 (.slice (some ⟨g, 0, none⟩) 1 cap) 1 _ := hA5.tail.head
      obtain ⟨cur, hc⟩ := own_ty hs (g := g) rfl
      rw [e, show w5.heap[gb]? = _ from hk5] at hc
      cases hc
    have hA6 := one_set hA5 ⟨hd, true, tc, ck, ⟨pre ++ (x.old ++ post), F.st, F.en, us, F.redo ++ [x]⟩, (.slice (some ⟨ug, uo, none⟩) us.length us.length), (.slice va (F.redo.length + 1) vc)⟩ 2 (.string (⟨pre.toArray⟩ ++ ⟨x.old.toArray⟩ ++ ⟨post.toArray⟩)) (by rw [bytes_app, bytes_app, List.append_assoc]; rfl)
    have hA7 := one_set hA6 ⟨hd, true, tc, ck, ⟨pre ++ (x.old ++ post), x.st, F.en, us, F.redo ++ [x]⟩, (.slice (some ⟨ug, uo, none⟩) us.length us.length), (.slice va (F.redo.length + 1) vc)⟩ 5 (.int .i64 (x.st : Int)) rfl
    have hA8 := one_set hA7 ⟨hd, true, tc, ck, ⟨pre ++ (x.old ++ post), x.st, x.en, us, F.redo ++ [x]⟩, (.slice (some ⟨ug, uo, none⟩) us.length us.length), (.slice va (F.redo.length + 1) vc)⟩ 6 (.int .i64 (x.en : Int)) rfl
    have hA9 := All.sub (l' := oneL Q g cap foc ⟨hd, true, tc, ck, ⟨pre ++ (x.old ++ post), x.st, x.en, us, F.redo ++ [x]⟩, (.slice (some ⟨ug, uo, none⟩) us.length us.length), (.slice va (F.redo.length + 1) vc)⟩ ++ ro 126 5 (.slice (some ⟨ug, uo, none⟩) us.length us.length) us.length (rows encE us) :: ro 126 5 (.slice va (F.redo.length + 1) vc) (F.redo.length + 1) (rows encE (F.redo ++ [x])) :: l) hA8 ((List.Sublist.refl _).append (((List.sublist_cons_self _ _).cons_cons _).cons_cons _))
    have HA9 := Lib.hid hA9
    clear hA5 hA6 hA7 hA8 hA9 hb5 hk5
    go_wp2_with fail
    go_ret2
    refine ⟨rfl, ?_⟩
    rw [HBk.out]
    refine FsAt.of (u := (.slice (some ⟨ug, uo, none⟩) us.length us.length)) (r := (.slice va (F.redo.length + 1) vc)) (tc := tc) (ck := ck) (g := g) (cap := cap) ?_
    have hLn : (F.redo ++ [x]).length = F.redo.length + 1 := by simp
    show All B w0 (oneL Q g cap foc _ ++ ro 126 5 (.slice (some ⟨ug, uo, none⟩) us.length us.length) us.length (rows encE us) :: ro 126 5 (.slice va (F.redo.length + 1) vc) (F.redo ++ [x]).length (rows encE (F.redo ++ [x])) :: l) _
    rw [hLn]
    exact HA9.out
end
end Go.Proofs.YtacdbnhnhdlmpaaGreatDoor.W
end
