/- (*strings.byteStringReplacer).Replace. -/
import Derived.Test.YtefijebbndnnjaaDoorRepB
import Derived.Test.YtefijebbndnnjaaDoorEscP
import Derived.Deep.CutBlock
import Derived.Laws.CopyOwn
import Derived.Deep.RegionLaw
set_option linter.unusedVariables false
set_option linter.unusedSimpArgs false
namespace Go.Proofs.YtefijebbndnnjaaDoor.W
open Go.RowKit

set_option maxRecDepth 100000 in
set_option maxHeartbeats 2000000 in
theorem count1 (s : ByteArray) (c : UInt8) (w : World) :
    Calls Tryd.prog 120 #[.string s, .string ⟨#[c]⟩] w fun e w' => e = .returned (.int .i64 (s.data.toList.count c)) ∧ w' = w := by
  have hix : ∀ h, ((⟨#[c]⟩ : ByteArray)[0]'h) = c := fun _ => rfl
  have hc : (c.toNat : Int).toNat.toUInt8 = c := by simp
  have hrun := Lib.run_countString (P := Tryd.prog) s (c.toNat : Int) w
  rw [hc] at hrun
  go_enter Tryd.func120, Tryd.ntmps120
  go_wp2_with fail
  rw [run_callFunc_extern Tryd.func122 (by kernel_rfl) (by kernel_rfl) (by kernel_rfl) (e := Extern.BytealgCount.count) (by kernel_rfl)]
  rw [hrun]
  simp only [Result.andThen]
  rw [Oper.upon_value]
  go_wp2_with fail
  go_ret
  exact ⟨rfl, rfl⟩

/-- what is read of a replacer -/
structure RepC (q G0 m : Nat) (ks : List UInt8) (T : UInt8 → Option (List UInt8)) (w : World) : Prop where
  free : ∀ c, T c = none → w.cell? ⟨q, c.toNat, none⟩ = some (.slice none 0 0)
  repl : ∀ c bs, T c = some bs → ∃ g cap, w.cell? ⟨q, c.toNat, none⟩ = some (.slice (some ⟨g, 0, none⟩) bs.length cap) ∧ ∀ j u, (Lib.byteCells bs)[j]? = some u → w.cell? ⟨g, j, none⟩ = some u
  keys : w.cell? ⟨q, 256, none⟩ = some (.slice (some ⟨G0, 0, none⟩) ks.length m)
  key : ∀ j k, ks[j]? = some k → w.cell? ⟨G0, j, none⟩ = some (.string ⟨#[k]⟩)
theorem RepC.below {q G0 m ks T} {w w' : World} (h : RepC q G0 m ks T w) (hb : Below w.heap.size w w') : RepC q G0 m ks T w' :=
  ⟨fun c hc => cell_keep hb (h.free c hc), fun c bs hc => let ⟨g, cap, h1, h2⟩ := h.repl c bs hc; ⟨g, cap, cell_keep hb h1, fun j u hj => cell_keep hb (h2 j u hj)⟩, cell_keep hb h.keys, fun j k hk => cell_keep hb (h.key j k hk)⟩
theorem RepC.of {B q G0 m ks T} {w : World} (h : Rep B q G0 m ks T w) (hp : 0 < ks.length) : RepC q G0 m ks T w := by
  obtain ⟨cs, hb, hl, h256, hc⟩ := h.blk
  refine ⟨fun c h0 => ?_, fun c bs h0 => ?_, (hb.cell 256).trans h256, fun j k hk => ?_⟩
  · rcases hc c with ⟨_, h2⟩ | ⟨bs, g, cap, h1, _⟩
    · exact (hb.cell _).trans h2
    · rw [h0] at h1; cases h1
  · rcases hc c with ⟨h1, _⟩ | ⟨bs', g, cap, h1, h2, _, _, _, _, h7⟩
    · rw [h0] at h1; cases h1
    · rw [h0] at h1; cases h1
      exact ⟨g, cap, (hb.cell _).trans h2, h7⟩
  · have := h.own.cells (g := G0) rfl j (strC [k]) (by rw [List.getElem?_map, hk]; rfl)
    rw [show (⟨G0, 0, none⟩ : Addr).add j = ⟨G0, j, none⟩ by unfold Addr.add; split <;> simp_all] at this
    exact this
theorem gains_snoc (T : UInt8 → Option (List UInt8)) (k : UInt8) (l : List UInt8) : ∀ a : List UInt8, gains T (a ++ [k]) l = gains T a l + l.count k * gain T k
  | [] => by simp [gains]
  | x :: a => by simp only [List.cons_append, gains, gains_snoc T k l a]; omega

theorem gains_le {ks T} (h : Tbl ks T) (l : List UInt8) : ∀ a : List UInt8, gains T a l ≤ a.length * (9 * l.length)
  | [] => by simp [gains]
  | k :: a => by
    have ih := gains_le h l a
    have h1 := (esc1_pos h k).2
    have h2 : l.count k ≤ l.length := List.count_le_length
    have h3 : l.count k * gain T k ≤ l.length * 9 := Nat.mul_le_mul h2 (by unfold gain; omega)
    simp only [gains, List.length_cons, Nat.add_mul, Nat.one_mul]
    omega
theorem any_keys {ks T} (h : Tbl ks T) (l : List UInt8) : (ks.any fun k => l.count k != 0) = l.any fun c => (T c).isSome := by
  rw [Bool.eq_iff_iff, List.any_eq_true, List.any_eq_true]
  constructor
  · rintro ⟨k, hk, hc⟩
    have : k ∈ l := by
      rcases Classical.em (k ∈ l) with h' | h'
      · exact h'
      · rw [List.count_eq_zero.2 h'] at hc; simp at hc
    exact ⟨k, this, (h.mem k).1 hk⟩
  · rintro ⟨c, hc, hs⟩
    refine ⟨c, (h.mem c).2 hs, ?_⟩
    have : l.count c ≠ 0 := fun e => (List.count_eq_zero.1 e) hc
    simpa using this
/-- the loop over the keys -/
def RaR (w : World) (ks : List UInt8) (T : UInt8 → Option (List UInt8)) (l : List UInt8) (nv av iv : Value) (wr : World) : Prop :=
  ∃ i : Nat, i ≤ ks.length ∧ nv = .int .i64 ((l.length + gains T (ks.take i) l : Nat) : Int) ∧ av = .bool ((ks.take i).any fun k => l.count k != 0) ∧ iv = .int .i64 (i : Int) ∧ Below w.heap.size w wr
/-- the loop over the bytes -/
def RbR (w : World) (T : UInt8 → Option (List UInt8)) (l : List UInt8) (nv av iv : Value) (wr : World) : Prop :=
  ∃ i : Nat, i ≤ l.length ∧ nv = .int .i64 (((escL T (l.take i)).length + (l.length - i) : Nat) : Int) ∧ av = .bool ((l.take i).any fun c => (T c).isSome) ∧ iv = .int .i64 (i : Int) ∧ Below w.heap.size w wr
/-- the loop that writes -/
def RcR (w : World) (gb : Nat) (T : UInt8 → Option (List UInt8)) (l : List UInt8) (jv iv : Value) (wr : World) : Prop :=
  ∃ (i : Nat) (X : List Value), i ≤ l.length ∧ jv = .int .i64 ((escL T (l.take i)).length : Int) ∧ iv = .int .i64 (i : Int) ∧ Blk wr gb X 5 ∧ X.length = (escL T l).length ∧ X.take (escL T (l.take i)).length = Lib.byteCells (escL T (l.take i)) ∧ Below w.heap.size w wr

set_option maxRecDepth 100000 in
set_option maxHeartbeats 4000000 in
theorem replace_any (q G0 m : Nat) (ks : List UInt8) (T : UInt8 → Option (List UInt8)) (s : ByteArray) (w : World) (hs : s.size ≤ 1000000) (hk : ks.length ≤ 4) (hR : RepC q G0 m ks T w) (hT : Tbl ks T) :
    Calls Tryd.prog 118 #[.pointer (some ⟨q, 0, none⟩), .string s] w fun e w' => e = .returned (.string ⟨(escL T s.data.toList).toArray⟩) ∧ Below w.heap.size w w' := by
  have hl : s.data.toList.length = s.size := (Lib.size_eq s).symm
  have HR := Lib.hid hR
  have HT := Lib.hid hT
  have c256 := hR.keys
  clear hR hT
  go_enter Tryd.func118, Tryd.ntmps118
  go_upto_if 26 with fail
  go_cut [5, 6] (fun nv av wx => nv = .int .i64 ((escL T s.data.toList).length : Int) ∧ av = .bool (s.data.toList.any fun c => (T c).isSome) ∧ Below w.heap.size w wx)
  case first =>
    by_cases hA : ks.length * 8 ≤ s.size
    · have hAi : (ks.length : Int) * 8 ≤ s.size := by omega
      have hAb : decide ((ks.length : Int) * 8 ≤ s.size) = true := decide_eq_true hAi
      simp only [hAb]
      go_wp2_with fail
      go_loopw [5, 6, 32] (fun nv av iv wr => RaR w ks T s.data.toList nv av iv wr) (fun _ _ iv _ => ks.length - (intOf iv).toNat)
      case atStart => exact ⟨0, by omega, by rw [List.take_zero, hl]; rfl, by rw [List.take_zero]; rfl, rfl, Below.refl _ _⟩
      case round =>
        obtain ⟨i, hi, rfl, rfl, rfl, hB⟩ := hrel
        by_cases hlt : i < ks.length
        · obtain ⟨k, hkk⟩ : ∃ k, ks[i]? = some k := ⟨_, List.getElem?_eq_getElem hlt⟩
          have hR2 := HR.out.below hB
          have g0 := hR2.key i k hkk
          obtain ⟨bs, hbs⟩ := Option.isSome_iff_exists.1 ((HT.out.mem k).1 (List.mem_of_getElem? hkk))
          obtain ⟨g, cap, hc, hcells⟩ := hR2.repl k bs hbs
          have htk : ks.take (i + 1) = ks.take i ++ [k] := by rw [List.take_add_one, hkk]; rfl
          have HG := Lib.hid (show gains T (ks.take (i + 1)) s.data.toList = gains T (ks.take i) s.data.toList + s.data.toList.count k * (bs.length - 1) by
            rw [htk, gains_snoc]; unfold gain esc1; rw [hbs])
          have HY := Lib.hid (show ((ks.take (i + 1)).any fun k => s.data.toList.count k != 0) = (((ks.take i).any fun k => s.data.toList.count k != 0) || s.data.toList.count k != 0) by rw [htk]; simp)
          have hcl : s.data.toList.count k ≤ s.size := by rw [← hl]; exact List.count_le_length
          have h2 := HT.out.two k bs hbs
          have hgb : gains T (ks.take i) s.data.toList ≤ 36000000 := by
            have h1 := gains_le HT.out s.data.toList (ks.take i)
            have h3 : (ks.take i).length * (9 * s.data.toList.length) ≤ 4 * (9 * 1000000) := Nat.mul_le_mul (by rw [List.length_take]; omega) (by omega)
            omega
          have HC := Lib.hid (count1 s k)
          generalize s.data.toList.count k = N at *
          clear hR2 hkk hcells
          have hHG := HG.out
          have hHY := HY.out
          generalize gains T (ks.take i) s.data.toList = GA at *
          generalize ((ks.take i).any fun k => s.data.toList.count k != 0) = AN at *
          clear HG HY
          by_cases hN : N = 0
          · subst hN
            have HG := Lib.hid hHG
            have HY := Lib.hid hHY
            clear hHG hHY
            go_wp2_with fail
            refine (HC.out _).mono ?_
            rintro e wz ⟨rfl, hw⟩
            subst wz
            go_wp2_with fail
            refine ⟨⟨i + 1, by omega, by rw [HG.out, Nat.zero_mul, Nat.add_zero, hl, Int.natCast_add], by rw [HY.out]; simp, by go_num, hB⟩, by simp [intOf]; omega⟩
          · obtain ⟨P, hP⟩ : ∃ P, P = N * (bs.length - 1) := ⟨_, rfl⟩
            have hPi : (N : Int) * ((bs.length : Int) - 1) = (P : Int) := by
              rw [hP, Int.natCast_mul]; congr 1; omega
            have hPle : P ≤ 9000000 := by rw [hP]; exact Nat.le_trans (Nat.mul_le_mul (by omega : N ≤ 1000000) (by omega : bs.length - 1 ≤ 9)) (by omega)
            rw [← hP] at hHG
            have HG := Lib.hid hHG
            have HY := Lib.hid hHY
            have hNi : ¬ (N : Int) = 0 := by omega
            have hNi2 : ((N : Int) != 0) = true := by simpa using hNi
            clear hHG hHY hP hN
            have hix : ∀ h, ((⟨#[k]⟩ : ByteArray)[0]'h) = k := fun _ => rfl
            have hk256 : (k.toNat : Int) < 256 := by have := k.toNat_lt; omega
            go_wp2_with fail
            refine (HC.out _).mono ?_
            rintro e wz ⟨rfl, hw⟩
            subst wz
            go_upto_region 9 with fail
            go_quiet (fail)
            all_goals (go_wp2_with fail)
            go_roundw
            case rel =>
              refine ⟨i + 1, by omega, ?_, ?_, by go_num, hB.trans (Go.Joins.below_draws _ _ _)⟩
              · rw [HG.out, hl]; congr 1; omega
              · rw [HY.out]
                have : (N != 0) = true := by simp; omega
                rw [this, Bool.or_true]
            case measure => simp [intOf]; omega
        · obtain rfl : i = ks.length := by omega
          have HF := Lib.hid (escL_length HT.out s.data.toList)
          have HY := Lib.hid (any_keys HT.out s.data.toList)
          rw [List.take_length]
          go_wp2_with fail
          go_meet
          exact ⟨by rw [HF.out], by rw [HY.out], hB⟩
    · have hAi : ¬ (ks.length : Int) * 8 ≤ s.size := by omega
      have hAb : decide ((ks.length : Int) * 8 ≤ s.size) = false := decide_eq_false hAi
      simp only [hAb]
      go_wp2_with fail
      go_loopw [5, 6, 10] (fun nv av iv wr => RbR w T s.data.toList nv av iv wr) (fun _ _ iv _ => s.size - (intOf iv).toNat)
      case atStart => exact ⟨0, by omega, by rw [List.take_zero, hl]; simp [escL], by rw [List.take_zero]; rfl, rfl, Below.refl _ _⟩
      case round =>
        obtain ⟨i, hi, rfl, rfl, rfl, hB⟩ := hrel
        rw [hl] at hi
        by_cases hlt : i < s.size
        · have hR2 := HR.out.below hB
          have hei := escL_take (T := T) (l := s.data.toList) (i := i) (by omega)
          have hle := escL_le HT.out (s.data.toList.take i)
          rw [List.length_take] at hle
          have hty : ((s.data.toList.take (i + 1)).any fun c => (T c).isSome) = (((s.data.toList.take i).any fun c => (T c).isSome) || (T s[i]).isSome) := by
            rw [List.take_succ_eq_append_getElem (by omega)]; simp; rfl
          have hsi : s.data.toList[i]'(by omega) = s[i] := rfl
          rw [hsi] at hei
          have h256 : (s[i].toNat : Int) < 256 := by have := s[i].toNat_lt; omega
          have hnn := fun (wx : World) (a : Option Addr) (n c : Nat) => run_neq_slice_nil_any (P := Tryd.prog) wx 35 5 a n c 0 0 Tryd.underlying35
          rw [hl]
          have HE := Lib.hid hei
          have HY := Lib.hid hty
          clear hei hty hsi
          have hle2 : (escL T (s.data.toList.take i)).length ≤ 10000000 := by omega
          generalize (escL T (s.data.toList.take i)) = E0 at *
          generalize ((s.data.toList.take i).any fun c => (T c).isSome) = AN at *
          cases hc : T s[i] with
          | none =>
            have g0 := hR2.free _ hc
            have HE2 := Lib.hid (show (escL T (s.data.toList.take (i + 1))).length = E0.length + 1 by rw [HE.out]; unfold esc1; rw [hc]; simp)
            have HY2 := Lib.hid (show ((s.data.toList.take (i + 1)).any fun c => (T c).isSome) = AN by rw [HY.out, hc]; simp)
            clear hR2 hc HE HY hle
            go_wp2_with fail
            exact ⟨⟨i + 1, by omega, by rw [HE2.out]; congr 1; omega, by rw [HY2.out], by go_num, hB⟩, by simp [intOf]; omega⟩
          | some bs =>
            obtain ⟨g, cap, g0, _⟩ := hR2.repl _ bs hc
            have h2 := HT.out.two _ bs hc
            have HE2 := Lib.hid (show (escL T (s.data.toList.take (i + 1))).length = E0.length + bs.length by rw [HE.out]; unfold esc1; rw [hc]; simp)
            have HY2 := Lib.hid (show ((s.data.toList.take (i + 1)).any fun c => (T c).isSome) = true by rw [HY.out, hc]; simp)
            clear hR2 hc HE HY hle
            go_wp2_with fail
            exact ⟨⟨i + 1, by omega, by rw [HE2.out]; congr 1; omega, by rw [HY2.out], by go_num, hB⟩, by simp [intOf]; omega⟩
        · obtain rfl : i = s.size := by omega
          have e : s.data.toList.take s.size = s.data.toList := by rw [← hl, List.take_length]
          rw [e]
          go_wp2_with fail
          go_meet
          exact ⟨by congr 1; omega, rfl, hB⟩
  case rest =>
    obtain ⟨rfl, rfl, hB⟩ := hcut
    cases hany : (s.data.toList.any fun c => (T c).isSome) with
    | false =>
      have HS := Lib.hid (show (⟨(escL T s.data.toList).toArray⟩ : ByteArray) = s by
        rw [escL_same _ (fun c hc => by
          rw [List.any_eq_false] at hany
          have := hany c hc
          cases e : T c with | none => rfl | some bs => rw [e] at this; simp at this)])
      go_wp2_with fail
      go_ret
      exact ⟨by rw [HS.out]; rfl, hB⟩
    | true =>
      have hle := escL_le HT.out s.data.toList
      have hpos : 0 < (escL T s.data.toList).length := by
        have hf := escL_length HT.out s.data.toList
        rcases List.any_eq_true.1 hany with ⟨c, hc, _⟩
        have := List.length_pos_of_mem hc
        omega
      obtain ⟨n, hn⟩ : ∃ n, n = (escL T s.data.toList).length := ⟨_, rfl⟩
      rw [← hn] at hle hpos ⊢
      have HN := Lib.hid hn
      clear hany hn
      obtain ⟨i0, hi, hz0, hz1, hz2⟩ := info_parts infoB
      go_wp2_with (at_make; refine wpList_make_full _ rfl _ _ 35 rfl w.heap.size 5 i0 (.int .u8 0) 1 Tryd.underlying35 hi hz0 hz1 _ _ _ _ n rfl rfl rfl rfl ?b2 ?b3 ?b4 ?_)
      case b2 => rw [hz2]; omega
      case b3 => unfold maxLen; omega
      case b4 => exact hB.size
      intro w2 hown hgr
      have hB2 : Below w.heap.size w w2 := hB.grown hgr hB.size (fun k hk => by cases hk)
      obtain ⟨X, hX, hXl⟩ : ∃ X : List Value, Blk w2 wc.heap.size X 5 ∧ X.length = n := by
        rcases hown.2 with ⟨h, _⟩ | ⟨g, cap, cur, hv, _, hh, hcap, _, hsz, _⟩
        · cases h
        · cases hv
          exact ⟨cur.toList, by unfold Blk; simpa using hh, by simp [hsz]⟩
      have hgw : w.heap.size ≤ wc.heap.size := hB.size
      have HX := Lib.hid hX
      clear hown hgr hX
      go_wp2_with fail
      go_loopw [13, 14] (fun jv iv wr => RcR w wc.heap.size T s.data.toList jv iv wr) (fun _ iv _ => s.size - (intOf iv).toNat)
      case atStart => exact ⟨0, X, by omega, rfl, rfl, HX.out, by rw [hXl, HN.out], rfl, hB2⟩
      case round =>
        obtain ⟨i, Y, hi', rfl, rfl, hY, hYl, hYt, hBr⟩ := hrel
        rw [hl] at hi'
        by_cases hlt : i < s.size
        · have hR2 := HR.out.below hBr
          have hei := escL_take (T := T) (l := s.data.toList) (i := i) (by omega)
          have hsi : s.data.toList[i]'(by omega) = s[i] := rfl
          rw [hsi] at hei
          have hle1 := escL_take_le (T := T) s.data.toList (i + 1)
          rw [← HN.out] at hle1 hYl
          have h256 : (s[i].toNat : Int) < 256 := by have := s[i].toNat_lt; omega
          have hnn := fun (wx : World) (a : Option Addr) (n c : Nat) => run_neq_slice_nil_any (P := Tryd.prog) wx 35 5 a n c 0 0 Tryd.underlying35
          have HE := Lib.hid hei
          have HYT := Lib.hid hYt
          clear hei hsi hYt
          generalize escL T (s.data.toList.take i) = E0 at *
          cases hc : T s[i] with
          | none =>
            have g0 := hR2.free _ hc
            have HE2 := Lib.hid (show escL T (s.data.toList.take (i + 1)) = E0 ++ [s[i]] by rw [HE.out]; unfold esc1; rw [hc])
            rw [HE2.out, List.length_append, List.length_singleton] at hle1
            have g1 := hY.cell E0.length
            rw [List.getElem?_eq_getElem (by omega)] at g1
            have z1 := hY.free E0.length
            have HB := Lib.hid hY
            clear hR2 hc HE hY
            go_wp2_with fail
            go_roundw
            case rel =>
              refine ⟨i + 1, _, by omega, by rw [HE2.out, List.length_append]; go_num, by go_num, Blk.set HB.out E0.length (.int .u8 (s[i].toNat : Int)), by rw [List.length_set, hYl, HN.out], ?_, hBr.setCell hgw _⟩
              rw [HE2.out, List.length_append, List.length_singleton, List.take_add_one, List.getElem?_set_self (by omega), List.take_set_of_le (Nat.le_refl _), HYT.out]
              unfold Lib.byteCells
              rw [List.map_append]; rfl
            case measure => simp [intOf]; omega
          | some bs =>
            obtain ⟨g, cap, g0, hcells⟩ := hR2.repl _ bs hc
            have h2 := HT.out.two _ bs hc
            have HE2 := Lib.hid (show escL T (s.data.toList.take (i + 1)) = E0 ++ bs by rw [HE.out]; unfold esc1; rw [hc])
            rw [HE2.out, List.length_append] at hle1
            have HB := Lib.hid hY
            have HCL := Lib.hid (show ∀ j v, (Lib.byteCells bs)[j]? = some v → wr.cell? ((⟨g, 0, none⟩ : Addr).add j) = some v from fun j v hj => by
              rw [show (⟨g, 0, none⟩ : Addr).add j = ⟨g, j, none⟩ by unfold Addr.add; split <;> simp_all]; exact hcells j v hj)
            have hbl := byteCells_length bs
            have hEn : E0.length ≤ n := by omega
            have hEne : ¬ n = E0.length := by omega
            clear hR2 hc HE hY hcells
            go_upto_region 28 with fail
            go_region_law (first
              | (refine step_copy_splice rfl (.tmp 105) (.tmp 111) 35 35 rfl 5 Tryd.underlying35 (by kernel_rfl) _ _ _ _ _ _ rfl rfl wc.heap.size E0.length Y 5 HB.out (Lib.byteCells bs) (by rw [hbl]; exact (Nat.min_eq_left (by omega)).symm) (fun _ => ⟨rfl, _, rfl, HCL.out⟩) (by rw [hbl]; omega) (by unfold Lib.byteCells; intro v hv; obtain ⟨x, _, rfl⟩ := List.mem_map.1 hv; rfl) w.heap.size w hBr.drew hgw ?_
                 intro w4 hg4 hb4))
            all_goals (
              have hbs : E0.length + bs.length ≤ 10000000 := by omega
              have hwrap : IntKind.i64.wrap ((E0.length : Int) + (bs.length : Int)) = (E0.length : Int) + (bs.length : Int) := IntWalk.i64_in _ ⟨by omega, by omega⟩
              have HW := Lib.hid (show Blk w4 wc.heap.size (splice Y E0.length (Lib.byteCells bs)) 5 from hg4)
              clear hg4 HB HCL
              simp only [Act.put, List.getElem_toArray, List.getElem_cons_succ, List.getElem_cons_zero, List.setIfInBounds_toArray, List.set_cons_zero, List.set_cons_succ]
              go_wp2_with fail
              go_roundw
              case rel =>
                refine ⟨i + 1, _, by omega, by rw [HE2.out, List.length_append, hwrap, Int.natCast_add], by go_num, HW.out, by rw [length_splice _ _ _ (by rw [hbl]; omega), hYl, HN.out], ?_, hb4⟩
                rw [HE2.out, List.length_append]
                unfold splice
                rw [HYT.out, ← List.append_assoc, List.take_append_of_le_length (by rw [List.length_append, byteCells_length, hbl]; omega), List.take_of_length_le (by rw [List.length_append, byteCells_length, hbl]; omega)]
                unfold Lib.byteCells
                rw [List.map_append]
              case measure => simp [intOf]; omega)
        · obtain rfl : i = s.size := by omega
          have e : s.data.toList.take s.size = s.data.toList := by rw [← hl, List.take_length]
          rw [e] at hYt
          have hYe : Y = Lib.byteCells (escL T s.data.toList) := by rw [← hYt, ← hYl, List.take_length]
          have hcv := run_convert_bytes_back (P := Tryd.prog) wr 35 9 5 ⟨wc.heap.size, 0, none⟩ n (escL T s.data.toList) Tryd.underlying35 Tryd.underlying5 Tryd.underlying9 (fun j hj => by
            rw [show (⟨wc.heap.size, 0, none⟩ : Addr).add j = ⟨wc.heap.size, j, none⟩ by unfold Addr.add; split <;> simp_all, hY.cell j, hYe]
            unfold Lib.byteCells
            rw [List.getElem?_map, List.getElem?_eq_getElem hj]; rfl)
          rw [← HN.out] at hcv
          clear hYt hYe hY hYl e
          go_wp2_with fail
          go_ret
          exact ⟨rfl, hBr⟩
end Go.Proofs.YtefijebbndnnjaaDoor.W
