/- Texts joined: OpF Rcl. -/
import Derived.Test.YtacdbnhnhdlmpaaGreatDoorFU32
import Derived.Test.YtacdbnhnhdlmpaaGreatDoorFU1
import Derived.Test.YtacdbnhnhdlmpaaGreatDoorFU31
import Derived.Lib.SmallJoins
import Derived.Deep.Slices
import Derived.Test.YtacdbnhnhdlmpaaGreatDoorFU18
import Derived.Lib.MapLaws
set_option maxRecDepth 100000
set_option maxHeartbeats 40000000
set_option linter.unusedVariables false
set_option linter.unusedSimpArgs false
section
namespace Go.Proofs.YtacdbnhnhdlmpaaGreatDoor.W
open Go.ChangeShapes Go.WideShapes Go.ChangeAt Go.RowKit Go.Joins Go.Deep
structure OpF where
  k : Nat
  a : Int
  b : Int
  s : List UInt8
structure OpF.In (o : OpF) : Prop where
  k : o.k ≤ 255
  a : -128 ≤ o.a ∧ o.a ≤ 127
  b : -128 ≤ o.b ∧ o.b ≤ 127
def zeroOf : OpF := ⟨0, 0, 0, []⟩
theorem zeroOf_in : zeroOf.In := ⟨by decide, by decide, by decide⟩
def InF (w : World) (A : Option Addr) (n : Nat) (f : Nat → OpF) : Prop := 0 < n → ∃ b off, A = some ⟨b, off, none⟩ ∧ b < w.heap.size ∧ ∀ j, j < n →
  w.cell? ⟨b, off + j * 4, none⟩ = some (.int .u8 ((f j).k : Int)) ∧ w.cell? ⟨b, off + j * 4 + 1, none⟩ = some (.int .i8 (f j).a) ∧ w.cell? ⟨b, off + j * 4 + 2, none⟩ = some (.int .i8 (f j).b) ∧ w.cell? ⟨b, off + j * 4 + 3, none⟩ = some (.string ⟨(f j).s.toArray⟩)
theorem InF.below {w w' : World} {A : Option Addr} {n : Nat} {f : Nat → OpF} (h : InF w A n f) (hb : Below w.heap.size w w') : InF w' A n f := fun hn => by
  obtain ⟨b, off, e, hl, hc⟩ := h hn
  exact ⟨b, off, e, Nat.lt_of_lt_of_le hl hb.size, fun j hj => let ⟨q0, q1, q2, q3⟩ := hc j hj; ⟨cell_keep hb q0, cell_keep hb q1, cell_keep hb q2, cell_keep hb q3⟩⟩
theorem byte_inF {x : Int} (h : (Lit.int .u8 x).wf = true) : 0 ≤ x ∧ x ≤ 255 := by
  have := bounds_u8 h
  omega
theorem byte_natF {x : Int} (h : (Lit.int .u8 x).wf = true) : x.toNat ≤ 255 ∧ ((x.toNat : Nat) : Int) = x := by
  have := byte_inF h
  omega
theorem str_listF (s : ByteArray) : (⟨s.data.toList.toArray⟩ : ByteArray) = s := by
  cases s; simp
section
variable {H : Type} {enc : TypeId × Value → H} {P : Program} {w : World}
theorem open_fops {r : Reach} {b0 : Nat} {t e : TypeId} {f0 f1 f2 f3 : Field} {v : Value} {d : DataW H} {ps : List MemPlace} (ht : P.underlying t = some (.slice e)) (he : P.underlying e = some (.struct #[f0, f1, f2, f3]))
    (hone : oneCellFields P #[f0, f1, f2, f3] = true) (hC : P.cellsOf e = 4) (e0 : P.underlying f0.type = some (.int .u8)) (e1 : P.underlying f1.type = some (.int .i8)) (e2 : P.underlying f2.type = some (.int .i8)) (e3 : P.underlying f3.type = some .string)
    (hval : Value.okWide P w r b0 t v) (h : DataW.Trod enc P w 0 (fun _ => true) true t v d ps) :
    ∃ A n c, ∃ f : Nat → OpF, v = .slice A n c ∧ n ≤ 9223372036854775807 ∧ InF w A n f ∧ ∀ j, (f j).In := by
  obtain ⟨A, n, c, rfl⟩ := okWide_slice ht hval
  obtain ⟨fuel, hf⟩ := h
  rcases open_slice ht hf with ⟨hcs, _⟩ | ⟨a, len, cap, m, k, D, Pl, hcs, _, hl, hmx, hm, _, hx⟩
  · simp [Value.cells] at hcs
    obtain ⟨rfl, rfl, rfl⟩ := hcs
    exact ⟨none, 0, 0, fun _ => zeroOf, rfl, Nat.zero_le _, fun h => absurd h (by omega), fun _ => zeroOf_in⟩
  · simp [Value.cells] at hcs
    obtain ⟨rfl, rfl, rfl⟩ := hcs
    simp only [if_true] at hm
    subst hm
    rw [hC] at hx
    have each : ∀ i, ∃ q : OpF, q.In ∧
        (i < n → w.cell? (a.add (i * 4)) = some (.int .u8 (q.k : Int)) ∧ w.cell? (a.add (i * 4 + 1)) = some (.int .i8 q.a) ∧ w.cell? (a.add (i * 4 + 2)) = some (.int .i8 q.b) ∧ w.cell? (a.add (i * 4 + 3)) = some (.string ⟨q.s.toArray⟩)) := by
      intro i
      by_cases hi : i < n
      · obtain ⟨cs, h1, h2⟩ := hx i (by omega)
        obtain ⟨_, hlen, hcell⟩ := World.cells?_some h1
        obtain ⟨o0, k0⟩ := hone_of hone 0 f0 rfl
        obtain ⟨o1, k1⟩ := hone_of hone 1 f1 rfl
        obtain ⟨o2, k2⟩ := hone_of hone 2 f2 rfl
        obtain ⟨o3, k3⟩ := hone_of hone 3 f3 rfl
        obtain ⟨xs, k', _, _, _, hxl, hg⟩ := DataW.trod_struct he h2
        match xs, hxl, cs, hlen with
        | [y0, y1, y2, y3], _, [v0, v1, v2, v3], _ =>
          have g0 := hg 0 f0 rfl
          have g1 := hg 1 f1 rfl
          have g2 := hg 2 f2 rfl
          have g3 := hg 3 f3 rfl
          simp [o0, o1, o2, o3, k0, k1, k2, k3] at g0 g1 g2 g3
          obtain ⟨x0, z0, _, w0⟩ := DataW.trod_int e0 g0
          obtain ⟨x1, z1, _, w1⟩ := DataW.trod_int e1 g1
          obtain ⟨x2, z2, _, w2⟩ := DataW.trod_int e2 g2
          obtain ⟨x3, z3, _⟩ := DataW.trod_string e3 g3
          simp at z0 z1 z2 z3
          subst z0 z1 z2 z3
          obtain ⟨r0, r0'⟩ := byte_natF w0
          refine ⟨⟨x0.toNat, x1, x2, x3.data.toList⟩, ⟨r0, bounds_i8 w1, bounds_i8 w2⟩, fun _ => ?_⟩
          simp only [r0', str_listF]
          refine ⟨?_, ?_, ?_, ?_⟩
          · have := hcell 0 (by omega); simpa [Addr.add] using this
          · have := hcell 1 (by omega); rw [Go.Deep.add_add] at this; simpa using this
          · have := hcell 2 (by omega); rw [Go.Deep.add_add] at this; simpa using this
          · have := hcell 3 (by omega); rw [Go.Deep.add_add] at this; simpa using this
      · exact ⟨zeroOf, zeroOf_in, fun h => absurd h hi⟩
    obtain ⟨F, hF⟩ := Classical.axiomOfChoice each
    refine ⟨some a, n, _, F, rfl, by unfold maxLen at hmx; omega, fun hn => ?_, fun j => (hF j).1⟩
    have hc := fun i hi => (hF i).2 hi
    clear hF each
    obtain ⟨b, off, el⟩ := a
    have h0 := (hc 0 hn).1
    have hel : el = none := by simpa [Addr.add] using World.cell?_spot h0
    subst hel
    refine ⟨b, off, rfl, ?_, fun i hi => ?_⟩
    · have := World.block_lt_of_cell? _ _ h0
      rw [Go.WideShapes.add_plain] at this
      exact this
    · obtain ⟨q0, q1, q2, q3⟩ := hc i hi
      rw [Go.WideShapes.add_plain] at q0 q1 q2 q3
      exact ⟨q0, q1, q2, q3⟩
end
def FewF (x : List UInt8) (n : Nat) (f : Nat → OpF) (w : World) (e : Ending) (w' : World) : Prop := ∃ b : Bool, e = .returned (.bool b) ∧ (b = true → x.length ≤ 60 ∧ n ≤ 150 ∧ ∀ j, j < n → (f j).s.length ≤ 20) ∧ w' = w
set_option maxRecDepth 100000 in
set_option maxHeartbeats 4000000 in
theorem few_any {w : World} (x : List UInt8) (hxl : (⟨x.toArray⟩ : ByteArray).size ≤ 9223372036854775807) (A : Option Addr) (n c : Nat) (f : Nat → OpF) (h : InF w A n f) (hn : n ≤ 9223372036854775807) :
    Calls Tryz.prog 13 #[.string ⟨x.toArray⟩, .slice A n c] w (FewF x n f w) := by
  have H := Lib.hid h
  clear h
  have hxs : (⟨x.toArray⟩ : ByteArray).size = x.length := by simp [ByteArray.size]
  go_enter Tryz.func13, Tryz.ntmps13
  go_wp2_with fail
  go_loop [8] (fun iv => ∃ k : Nat, k ≤ n ∧ iv = .int .i64 (k : Int) ∧ ∀ j, j < k → (f j).s.length ≤ 20) (fun iv => n - (intOf iv).toNat)
  case atStart => exact ⟨0, Nat.zero_le _, rfl, fun j hj => absurd hj (Nat.not_lt_zero j)⟩
  case round =>
    obtain ⟨k, hkn, rfl, hS⟩ := hrel
    have HS := Lib.hid hS
    clear hS
    by_cases hkl : k < n
    · obtain ⟨b, off, rfl, hb, hc⟩ := H.out (by omega)
      obtain ⟨_, _, _, q3⟩ := hc k hkl
      have hs1 : (⟨(f k).s.toArray⟩ : ByteArray).size = (f k).s.length := by simp [ByteArray.size]
      by_cases hl : (f k).s.length ≤ 20
      · have hd : decide ((20 : Int) < (((⟨(f k).s.toArray⟩ : ByteArray).size : Nat) : Int)) = false := by rw [hs1]; simp; omega
        have HLl := Lib.hid hl
        clear hc hs1 hl
        generalize (⟨(f k).s.toArray⟩ : ByteArray) = sv at *
        go_wp2_with fail
        go_round
        case rel =>
          refine ⟨k + 1, by omega, by go_num, fun j hj => ?_⟩
          by_cases e : j = k
          · subst e; exact HLl.out
          · exact HS.out j (by omega)
        case measure => simp [intOf]; omega
      · have hd : decide ((20 : Int) < (((⟨(f k).s.toArray⟩ : ByteArray).size : Nat) : Int)) = true := by rw [hs1]; simp; omega
        clear hc hs1 hl
        generalize (⟨(f k).s.toArray⟩ : ByteArray) = sv at *
        go_wp2_with fail
        go_ret
        exact ⟨false, rfl, fun e => (by cases e), rfl⟩
    · obtain rfl : k = n := by omega
      by_cases h1 : x.length ≤ 60
      · have hd1 : decide ((((⟨x.toArray⟩ : ByteArray).size : Nat) : Int) ≤ 60) = true := by rw [hxs]; simp; omega
        by_cases h2 : k ≤ 150
        · have hd2 : decide ((k : Int) ≤ 150) = true := by simp; omega
          generalize (⟨x.toArray⟩ : ByteArray) = xv at *
          go_wp2_with fail
          go_ret
          exact ⟨true, rfl, fun _ => ⟨h1, h2, HS.out⟩, rfl⟩
        · have hd2 : decide ((k : Int) ≤ 150) = false := by simp; omega
          generalize (⟨x.toArray⟩ : ByteArray) = xv at *
          go_wp2_with fail
          go_ret
          exact ⟨false, rfl, fun e => (by cases e), rfl⟩
      · have hd1 : decide ((((⟨x.toArray⟩ : ByteArray).size : Nat) : Int) ≤ 60) = false := by rw [hxs]; simp; omega
        generalize (⟨x.toArray⟩ : ByteArray) = xv at *
        go_wp2_with fail
        go_ret
        exact ⟨false, rfl, fun e => (by cases e), rfl⟩
end Go.Proofs.YtacdbnhnhdlmpaaGreatDoor.W
end
section
namespace Go.Proofs.YtacdbnhnhdlmpaaGreatDoor.W
open Go.RowKit
theorem encode_is (r : Int) : Utf8.encode r = ⟨(Lib.encodeRune r).toArray⟩ := by
  unfold Lib.encodeRune
  by_cases hv : Utf8.valid r = true
  · have hv' := hv
    unfold Utf8.valid at hv'
    simp only [Bool.or_eq_true, Bool.and_eq_true, decide_eq_true_eq] at hv'
    obtain ⟨n, rfl⟩ : ∃ n : Nat, r = (n : Int) := ⟨r.toNat, by omega⟩
    have e : Utf8.encode (n : Int) = (if n < 0x80 then ⟨#[UInt8.ofNat n]⟩ else if n < 0x800 then ⟨#[UInt8.ofNat (0xC0 + n / 64), UInt8.ofNat (0x80 + n % 64)]⟩ else if n < 0x10000 then ⟨#[UInt8.ofNat (0xE0 + n / 4096), UInt8.ofNat (0x80 + n / 64 % 64), UInt8.ofNat (0x80 + n % 64)]⟩ else ⟨#[UInt8.ofNat (0xF0 + n / 262144), UInt8.ofNat (0x80 + n / 4096 % 64), UInt8.ofNat (0x80 + n / 64 % 64), UInt8.ofNat (0x80 + n % 64)]⟩) := by
      unfold Utf8.encode
      simp only [hv, if_true, Int.toNat_natCast]
    rw [e]
    by_cases h1 : n < 128
    · rw [if_pos h1, Lib.encodeRuneZ_one (by omega) (by omega)]
      simp only [List.map_cons, List.map_nil, Int.toNat_natCast]
      first | done | rfl
    rw [if_neg h1]
    by_cases h2 : n < 2048
    · rw [if_pos h2, Lib.encodeRuneZ_two (by omega) (by omega)]
      simp only [List.map_cons, List.map_nil]
      rw [show (192 + (n : Int) / 64).toNat = 192 + n / 64 by omega, show (128 + (n : Int) % 64).toNat = 128 + n % 64 by omega]
    rw [if_neg h2]
    by_cases h3 : n < 65536
    · rw [if_pos h3, Lib.encodeRuneZ_three (by omega)]
      simp only [List.map_cons, List.map_nil]
      rw [show (224 + (n : Int) / 4096).toNat = 224 + n / 4096 by omega, show (128 + (n : Int) / 64 % 64).toNat = 128 + n / 64 % 64 by omega, show (128 + (n : Int) % 64).toNat = 128 + n % 64 by omega]
    rw [if_neg h3, Lib.encodeRuneZ_four (by omega) (by omega)]
    simp only [List.map_cons, List.map_nil]
    rw [show (240 + (n : Int) / 262144).toNat = 240 + n / 262144 by omega, show (128 + (n : Int) / 4096 % 64).toNat = 128 + n / 4096 % 64 by omega, show (128 + (n : Int) / 64 % 64).toNat = 128 + n / 64 % 64 by omega, show (128 + (n : Int) % 64).toNat = 128 + n % 64 by omega]
  · have hv' := hv
    unfold Utf8.valid at hv'
    simp only [Bool.or_eq_true, Bool.and_eq_true, decide_eq_true_eq] at hv'
    rw [Lib.encodeRuneZ_bad (by omega)]
    have e : Utf8.encode r = ⟨#[239, 191, 189]⟩ := by
      unfold Utf8.encode
      rw [if_neg hv]
      rfl
    rw [e]
    rfl
theorem vd_one {l : List UInt8} (h : Vd l) (hne : l ≠ []) : Lib.encodeRune ((Lib.decodeL l).1 : Int) = l.take (Lib.decodeL l).2 ∧ Vd (l.drop (Lib.decodeL l).2) ∧
    (((Lib.decodeL l).1 = 10 ∨ (Lib.decodeL l).1 = 13) → stripL (l.take (Lib.decodeL l).2) = []) ∧ (¬ ((Lib.decodeL l).1 = 10 ∨ (Lib.decodeL l).1 = 13) → stripL (l.take (Lib.decodeL l).2) = l.take (Lib.decodeL l).2) := by
  obtain ⟨h0, h3, h4, h5⟩ := vd_sz h hne
  have hs : szL l = (Lib.decodeL l).2 ∧ ¬ ((Lib.decodeL l).1 = 65533 ∧ (Lib.decodeL l).2 = 1) := by
    unfold szL at h0 ⊢
    rw [if_neg hne] at h0 ⊢
    split at h0
    · exact absurd rfl h0
    · rename_i hb
      rw [if_neg hb]
      exact ⟨rfl, hb⟩
  have he := Lib.encode_decode l hne hs.2
  rw [← hs.1] at he ⊢
  refine ⟨he, h4, fun hr => ?_, fun hr => ?_⟩
  · rw [← he]
    rcases hr with hr | hr <;> rw [hr] <;> decide
  · obtain ⟨h1, h2⟩ := szL_app l [] h0
    rw [List.append_nil] at h1
    have hne2 : l.take (szL l) ≠ [] := by intro e4; have := congrArg List.length e4; rw [h2] at this; simp at this; omega
    unfold stripL
    rw [List.filter_eq_self]
    rcases piece_is _ hne2 (h1.trans h2.symm) with ⟨c, hc, hlt⟩ | hh
    · intro b hb
      rw [hc] at hb
      obtain rfl : b = c := by simpa using hb
      have key : (Lib.decodeL l).1 = b.toNat := by
        have hz : (Lib.encodeRune ((Lib.decodeL l).1 : Int)) = [b] := he.trans hc
        have hr127 : (Lib.decodeL l).1 ≤ 127 := by
          rcases Nat.lt_or_ge 127 (Lib.decodeL l).1 with q | q
          · exfalso
            have h2 : 2 ≤ (Lib.encodeRune ((Lib.decodeL l).1 : Int)).length := by
              unfold Lib.encodeRune Lib.encodeRuneZ
              rw [List.length_map, if_neg (by omega)]
              split
              · simp
              · split
                · simp
                · split <;> simp
            rw [hz] at h2
            simp at h2
          · exact q
        unfold Lib.encodeRune at hz
        rw [Lib.encodeRuneZ_one (by omega) (by omega)] at hz
        simp only [List.map_cons, List.map_nil, Int.toNat_natCast, List.cons.injEq, and_true] at hz
        rw [← hz]
        simp; omega
      have e1 : b ≠ 10 := fun e => hr (.inl (by rw [key, e]; rfl))
      have e2 : b ≠ 13 := fun e => hr (.inr (by rw [key, e]; rfl))
      simp [e1, e2]
    · intro b hb
      have := hh b hb
      have e1 : b ≠ 10 := fun e => by subst e; simp at this
      have e2 : b ≠ 13 := fun e => by subst e; simp at this
      simp [e1, e2]
theorem strip_app (a b : List UInt8) : stripL (a ++ b) = stripL a ++ stripL b := by unfold stripL; rw [List.filter_append]
set_option maxHeartbeats 4000000 in
set_option maxRecDepth 1000000 in
theorem rclean_any (x : List UInt8) (area : Bool) (w : World) (hx : x.length ≤ 10000) :
    Calls Tryz.prog 18 #[.string ⟨x.toArray⟩, .bool area] w fun e w' => e = .returned (.string ⟨(cleanL area x).toArray⟩) ∧ Below w.heap.size w w' := by
  have HR := Lib.hid (repairR_any x w (by omega))
  have hfl := fix_len x
  rw [fix_rfix] at hfl
  have hvd : Vd (rfix x) := rfix_rfix x
  unfold cleanL
  generalize rfix x = y at *
  cases area with
  | true =>
    rw [if_pos rfl]
    go_enter Tryz.func18, Tryz.ntmps18
    go_wp2_with fail
    refine HR.out.mono ?_
    rintro e w1 ⟨rfl, hb1⟩
    go_wp2_with fail
    go_ret
    exact ⟨rfl, hb1⟩
  | false =>
    rw [if_neg (by simp)]
    have hsz : (⟨y.toArray⟩ : ByteArray).size = y.length := by show y.toArray.size = _; simp
    have hyl : (⟨y.toArray⟩ : ByteArray).data.toList = y := rfl
    generalize hss : (⟨y.toArray⟩ : ByteArray) = s at *
    go_enter Tryz.func18, Tryz.ntmps18
    go_wp2_with fail
    refine HR.out.mono ?_
    rintro e w0 ⟨rfl, hb0⟩
    go_wp2_with fail
    go_loopw [5] (fun ov wr => ∃ (pos : Nat) (acc : List UInt8), ov = .string ⟨acc.toArray⟩ ∧ wr.heap[w0.heap.size]? = some (.stringIter s pos) ∧ Below w0.heap.size w0 wr ∧ acc ++ stripL (y.drop pos) = stripL y ∧ Vd (y.drop pos) ∧ pos ≤ s.size) (fun _ wr => s.size - wr.iterPos w0.heap.size)
    case atStart =>
      refine ⟨0, [], rfl, ?_, (Below.refl _ w0).alloc (Nat.le_refl _) _, by simp, by simpa using hvd, Nat.zero_le _⟩
      have := World.iter_heap w0 s 0
      simpa using this
    case round =>
      obtain ⟨pos, acc, rfl, hit, hbw, hacc, hvr, hps⟩ := hrel
      have hszl : w0.heap.size < wr.heap.size := (Array.getElem?_eq_some_iff.1 hit).1
      by_cases hp : pos < s.size
      · have hnx : ∀ ty, (Instr.next (.pointer (some ⟨w0.heap.size, 0, none⟩)) true ty).run Tryz.prog wr = _ := fun ty => Lib.run_next_any_at wr w0.heap.size s pos ty hit hp
        have hwd := width_pos s pos hp
        have hd1 := decode_le s pos
        have hit2 := Lib.iterAt_heap wr w0.heap.size s pos (pos + (Utf8.decode s pos).2) hit
        have hbw2 := Lib.below_iterAt hbw (k := w0.heap.size) (by omega) s (pos + (Utf8.decode s pos).2)
        have hne : y.drop pos ≠ [] := by intro e; have := congrArg List.length e; rw [List.length_drop] at this; simp at this; omega
        have hdl : Utf8.decode s pos = Lib.decodeL (y.drop pos) := by rw [decodeL_at, hyl]
        obtain ⟨he, hv2, hr1, hr2⟩ := vd_one hvr hne
        rw [← hdl] at he hv2 hr1 hr2
        have hen : Utf8.encode ((Utf8.decode s pos).1 : Int) = ⟨((y.drop pos).take (Utf8.decode s pos).2).toArray⟩ := by rw [encode_is, he]
        have hacc2 : acc ++ (stripL ((y.drop pos).take (Utf8.decode s pos).2) ++ stripL (y.drop (pos + (Utf8.decode s pos).2))) = stripL y := by
          rw [← strip_app, ← List.drop_drop, List.take_append_drop]; exact hacc
        rw [List.drop_drop] at hv2
        have hal : acc.length + (y.drop pos).length ≤ 2 * y.length + 0 := by
          have h1 := congrArg List.length hacc
          rw [List.length_append] at h1
          have h2 := strip_len y
          rw [List.length_drop]
          omega
        have htl : ((y.drop pos).take (Utf8.decode s pos).2).length ≤ y.length := by rw [List.length_take, List.length_drop]; omega
        generalize hpc : (y.drop pos).take (Utf8.decode s pos).2 = pc at *
        have hps2 : pos + (Utf8.decode s pos).2 ≤ s.size := by
          have := Lib.decodeL_le _ hne
          rw [← hdl, List.length_drop] at this
          omega
        have hit0 := hit
        have hyl2 : y.length ≤ 40000 := by omega
        have HF := Lib.hid (And.intro hacc2 (And.intro hv2 (And.intro hbw2 hit2)))
        clear hacc hvr hne hdl he hacc2 hv2 hbw hit hpc hbw2 hit2 HR hvd hfl
        generalize (Utf8.decode s pos).1 = rr at *
        generalize (Utf8.decode s pos).2 = nn at *
        by_cases h10 : rr = 10
        · subst h10
          have hs0 := hr1 (.inl rfl)
          clear hr1 hr2 hen
          go_wp2_with fail
          go_roundw
          case rel =>
            obtain ⟨a, b, c, d⟩ := HF.out
            rw [hs0, List.nil_append] at a
            exact ⟨pos + nn, acc, rfl, d, c, a, b, hps2⟩
          case measure =>
            obtain ⟨a, b, c, d⟩ := HF.out
            simp only [World.iterPos, d, hit0]
            omega
        · by_cases h13 : rr = 13
          · subst h13
            have hs0 := hr1 (.inr rfl)
            clear hr1 hr2 hen
            go_wp2_with fail
            go_roundw
            case rel =>
              obtain ⟨a, b, c, d⟩ := HF.out
              rw [hs0, List.nil_append] at a
              exact ⟨pos + nn, acc, rfl, d, c, a, b, hps2⟩
            case measure =>
              obtain ⟨a, b, c, d⟩ := HF.out
              simp only [World.iterPos, d, hit0]
              omega
          · have hs0 := hr2 (by omega)
            have e1 : ((rr : Int) != 10) = true := by simp; omega
            have e2 : ((rr : Int) != 13) = true := by simp; omega
            have hb1 : ¬ 9223372036854775807 < acc.length + pc.length := by omega
            have H1 := Lib.hid h10
            have H2 := Lib.hid h13
            clear hr1 hr2 h10 h13
            go_wp2_with fail
            go_roundw
            case rel =>
              obtain ⟨a, b, c, d⟩ := HF.out
              rw [hs0, ← List.append_assoc] at a
              refine ⟨pos + nn, acc ++ pc, ?_, d, c, a, b, hps2⟩
              rw [← bytes_app]
            case measure =>
              obtain ⟨a, b, c, d⟩ := HF.out
              simp only [World.iterPos, d, hit0]
              omega
      · have hnx : ∀ ty, (Instr.next (.pointer (some ⟨w0.heap.size, 0, none⟩)) true ty).run Tryz.prog wr = _ := fun ty => Lib.run_next_end_at wr w0.heap.size s pos ty hit hp
        go_wp2_with fail
        go_ret
        have e : y.drop pos = [] := List.drop_eq_nil_of_le (by omega)
        rw [e] at hacc
        have hs0 : stripL [] = [] := rfl
        rw [hs0, List.append_nil] at hacc
        subst hacc
        exact ⟨rfl, hb0.trans (hbw.mono hb0.size)⟩
end Go.Proofs.YtacdbnhnhdlmpaaGreatDoor.W
end
