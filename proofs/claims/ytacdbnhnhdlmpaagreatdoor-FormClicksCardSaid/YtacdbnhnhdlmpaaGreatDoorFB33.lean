/- Texts joined: FrR FmC FrO. -/
import Derived.Test.YtacdbnhnhdlmpaaGreatDoorFB32
import Derived.Deep.CutBlock
import Derived.Laws.CopyOwn
import Derived.Deep.RegionLaw
import Derived.Test.YtacdbnhnhdlmpaaGreatDoorFB21
import Derived.Test.YtacdbnhnhdlmpaaGreatDoorFB25
set_option maxRecDepth 100000
set_option maxHeartbeats 40000000
set_option linter.unusedVariables false
set_option linter.unusedSimpArgs false
section
namespace Go.Proofs.YtacdbnhnhdlmpaaGreatDoor.W
open Go.RowKit
set_option maxRecDepth 100000 in
set_option maxHeartbeats 2000000 in
theorem count1 (s : ByteArray) (c : UInt8) (w : World) :
    Calls Tryz.prog 236 #[.string s, .string ⟨#[c]⟩] w fun e w' => e = .returned (.int .i64 (s.data.toList.count c)) ∧ w' = w := by
  have hix : ∀ h, ((⟨#[c]⟩ : ByteArray)[0]'h) = c := fun _ => rfl
  have hc : (c.toNat : Int).toNat.toUInt8 = c := by simp
  have hrun := Lib.run_countString (P := Tryz.prog) s (c.toNat : Int) w
  rw [hc] at hrun
  go_enter Tryz.func236, Tryz.ntmps236
  go_wp2_with fail
  rw [run_callFunc_extern Tryz.func237 (by kernel_rfl) (by kernel_rfl) (by kernel_rfl) (e := Extern.BytealgCount.count) (by kernel_rfl)]
  rw [hrun]
  simp only [Result.andThen]
  rw [Oper.upon_value]
  go_wp2_with fail
  go_ret
  exact ⟨rfl, rfl⟩
structure RepC (q G0 m : Nat) (ks : List UInt8) (T : UInt8 → Option (List UInt8)) (w : World) : Prop where
  free : ∀ c, T c = none → w.cell? ⟨q, c.toNat, none⟩ = some (.slice none 0 0)
  repl : ∀ c bs, T c = some bs → ∃ g cap, w.cell? ⟨q, c.toNat, none⟩ = some (.slice (some ⟨g, 0, none⟩) bs.length cap) ∧ ∀ j u, (Lib.byteCells bs)[j]? = some u → w.cell? ⟨g, j, none⟩ = some u
  keys : w.cell? ⟨q, 256, none⟩ = some (.slice (some ⟨G0, 0, none⟩) ks.length m)
  key : ∀ j k, ks[j]? = some k → w.cell? ⟨G0, j, none⟩ = some (.string ⟨#[k]⟩)
theorem RepC.below {q G0 m ks T} {w w' : World} (h : RepC q G0 m ks T w) (hb : Below w.heap.size w w') : RepC q G0 m ks T w' :=
  ⟨fun c hc => cell_keep hb (h.free c hc), fun c bs hc => let ⟨g, cap, h1, h2⟩ := h.repl c bs hc; ⟨g, cap, cell_keep hb h1, fun j u hj => cell_keep hb (h2 j u hj)⟩, cell_keep hb h.keys, fun j k hk => cell_keep hb (h.key j k hk)⟩
theorem RepC.of {B q G0 m ks T} {w : World} (h : Rep B q G0 m ks T w) (hp : 0 < ks.length) : RepC q G0 m ks T w := by
  obtain ⟨cs, hb, hl, h256, hc⟩ := h.blk
  refine ⟨fun c h0 => ?_, fun c bs h0 => ?_, (hb.cell 256).trans h256, fun j k hk => ?_⟩
  · rcases hc c with ⟨_, h2⟩ | ⟨bs, g, cap, h1, _⟩
    · exact (hb.cell _).trans h2
    · rw [h0] at h1; cases h1
  · rcases hc c with ⟨h1, _⟩ | ⟨bs', g, cap, h1, h2, _, _, _, _, h7⟩
    · rw [h0] at h1; cases h1
    · rw [h0] at h1; cases h1
      exact ⟨g, cap, (hb.cell _).trans h2, h7⟩
  · have := h.own.cells (g := G0) rfl j (strC [k]) (by rw [List.getElem?_map, hk]; rfl)
    rw [show (⟨G0, 0, none⟩ : Addr).add j = ⟨G0, j, none⟩ by unfold Addr.add; split <;> simp_all] at this
    exact this
def esc1 (T : UInt8 → Option (List UInt8)) (c : UInt8) : List UInt8 := match T c with | none => [c] | some bs => bs
def escL (T : UInt8 → Option (List UInt8)) (l : List UInt8) : List UInt8 := l.flatMap (esc1 T)
def loss : List UInt8 → List UInt8 → Nat
  | [], _ => 0
  | k :: ks, l => l.count k + loss ks l
structure Tbl (ks : List UInt8) (T : UInt8 → Option (List UInt8)) : Prop where
  nodup : ks.Nodup
  mem : ∀ c, c ∈ ks ↔ (T c).isSome = true
  emp : ∀ c bs, T c = some bs → bs = []
theorem loss_nil : ∀ ks : List UInt8, loss ks [] = 0
  | [] => rfl
  | k :: ks => by simp [loss, loss_nil ks]
theorem loss_snoc (k : UInt8) (l : List UInt8) : ∀ a : List UInt8, loss (a ++ [k]) l = loss a l + l.count k
  | [] => by simp [loss]
  | x :: a => by simp only [List.cons_append, loss, loss_snoc k l a]; omega
theorem loss_cons (c : UInt8) (t : List UInt8) : ∀ ks : List UInt8, ks.Nodup → loss ks (c :: t) = loss ks t + if c ∈ ks then 1 else 0
  | [], _ => by simp [loss]
  | k :: ks, h => by
    rw [List.nodup_cons] at h
    have ih := loss_cons c t ks h.2
    simp only [loss, ih, List.count_cons]
    by_cases hck : c = k
    · subst hck
      simp only [beq_self_eq_true, if_true, List.mem_cons, true_or, h.1, if_false, Nat.add_zero]
      omega
    · have hb : (c == k) = false := by simpa using hck
      simp only [hb, Bool.false_eq_true, if_false, Nat.add_zero, List.mem_cons, hck, false_or]
      omega
theorem esc1_in {ks T} (h : Tbl ks T) (c : UInt8) : (c ∈ ks ∧ esc1 T c = []) ∨ (c ∉ ks ∧ esc1 T c = [c]) := by
  unfold esc1
  cases e : T c with
  | none => exact .inr ⟨fun hc => by rw [(h.mem c), e] at hc; simp at hc, rfl⟩
  | some bs => exact .inl ⟨(h.mem c).2 (by rw [e]; rfl), h.emp c bs e⟩
theorem escL_loss {ks T} (h : Tbl ks T) : ∀ l, (escL T l).length + loss ks l = l.length
  | [] => by simp [escL, loss_nil]
  | c :: t => by
    have ih := escL_loss h t
    rw [loss_cons c t ks h.nodup]
    unfold escL at ih ⊢
    rw [List.flatMap_cons, List.length_append, List.length_cons]
    rcases esc1_in h c with ⟨hc, e⟩ | ⟨hc, e⟩
    · rw [if_pos hc, e, List.length_nil]; omega
    · rw [if_neg hc, e, List.length_singleton]; omega
theorem escL_le {ks T} (h : Tbl ks T) (l : List UInt8) : (escL T l).length ≤ l.length := by have := escL_loss h l; omega
theorem loss_take (l : List UInt8) (ks : List UInt8) (i : Nat) : loss (ks.take i) l ≤ loss ks l := by
  induction ks generalizing i with
  | nil => simp [loss]
  | cons k ks ih =>
    cases i with
    | zero => simp [loss]
    | succ i => simp only [List.take_succ_cons, loss]; have := ih i; omega
theorem escL_same {T : UInt8 → Option (List UInt8)} : ∀ l : List UInt8, (∀ c ∈ l, T c = none) → escL T l = l
  | [], _ => rfl
  | c :: t, h => by
    have ih := escL_same t (fun x hx => h x (by simp [hx]))
    unfold escL at ih ⊢
    rw [List.flatMap_cons, ih]
    unfold esc1; rw [h c (by simp)]; rfl
theorem escL_take {T : UInt8 → Option (List UInt8)} {l : List UInt8} {i : Nat} (hi : i < l.length) : escL T (l.take (i + 1)) = escL T (l.take i) ++ esc1 T l[i] := by
  unfold escL; rw [List.take_succ_eq_append_getElem hi, List.flatMap_append, List.flatMap_singleton]
theorem escL_take_le {T : UInt8 → Option (List UInt8)} (l : List UInt8) (i : Nat) : (escL T (l.take i)).length ≤ (escL T l).length := by
  have : escL T l = escL T (l.take i) ++ escL T (l.drop i) := by unfold escL; rw [← List.flatMap_append, List.take_append_drop]
  rw [this]; simp
theorem any_keys {ks T} (h : Tbl ks T) (l : List UInt8) : (ks.any fun k => l.count k != 0) = l.any fun c => (T c).isSome := by
  rw [Bool.eq_iff_iff, List.any_eq_true, List.any_eq_true]
  constructor
  · rintro ⟨k, hk, hc⟩
    have : k ∈ l := by
      rcases Classical.em (k ∈ l) with h' | h'
      · exact h'
      · rw [List.count_eq_zero.2 h'] at hc; simp at hc
    exact ⟨k, this, (h.mem k).1 hk⟩
  · rintro ⟨c, hc, hs⟩
    refine ⟨c, (h.mem c).2 hs, ?_⟩
    have : l.count c ≠ 0 := fun e => (List.count_eq_zero.1 e) hc
    simpa using this
def RaR (w : World) (ks : List UInt8) (T : UInt8 → Option (List UInt8)) (l : List UInt8) (nv av iv : Value) (wr : World) : Prop :=
  ∃ i : Nat, i ≤ ks.length ∧ nv = .int .i64 ((l.length - loss (ks.take i) l : Nat) : Int) ∧ av = .bool ((ks.take i).any fun k => l.count k != 0) ∧ iv = .int .i64 (i : Int) ∧ Below w.heap.size w wr
def RbR (w : World) (T : UInt8 → Option (List UInt8)) (l : List UInt8) (nv av iv : Value) (wr : World) : Prop :=
  ∃ i : Nat, i ≤ l.length ∧ nv = .int .i64 (((escL T (l.take i)).length + (l.length - i) : Nat) : Int) ∧ av = .bool ((l.take i).any fun c => (T c).isSome) ∧ iv = .int .i64 (i : Int) ∧ Below w.heap.size w wr
def RcR (w : World) (gb : Nat) (T : UInt8 → Option (List UInt8)) (l : List UInt8) (jv iv : Value) (wr : World) : Prop :=
  ∃ (i : Nat) (X : List Value), i ≤ l.length ∧ jv = .int .i64 ((escL T (l.take i)).length : Int) ∧ iv = .int .i64 (i : Int) ∧ Blk wr gb X 5 ∧ X.length = (escL T l).length ∧ X.take (escL T (l.take i)).length = Lib.byteCells (escL T (l.take i)) ∧ Below w.heap.size w wr
set_option maxRecDepth 100000 in
set_option maxHeartbeats 4000000 in
theorem replace_any (q G0 m : Nat) (ks : List UInt8) (T : UInt8 → Option (List UInt8)) (s : ByteArray) (w : World) (hs : s.size ≤ 1000000) (hk : ks.length ≤ 4) (hR : RepC q G0 m ks T w) (hT : Tbl ks T) :
    Calls Tryz.prog 234 #[.pointer (some ⟨q, 0, none⟩), .string s] w fun e w' => e = .returned (.string ⟨(escL T s.data.toList).toArray⟩) ∧ Below w.heap.size w w' := by
  have hl : s.data.toList.length = s.size := (Lib.size_eq s).symm
  have HR := Lib.hid hR
  have HT := Lib.hid hT
  have c256 := hR.keys
  clear hR hT
  go_enter Tryz.func234, Tryz.ntmps234
  go_upto_if 26 with fail
  go_cut [5, 6] (fun nv av wx => nv = .int .i64 ((escL T s.data.toList).length : Int) ∧ av = .bool (s.data.toList.any fun c => (T c).isSome) ∧ Below w.heap.size w wx)
  case first =>
    by_cases hA : ks.length * 8 ≤ s.size
    · have hAi : (ks.length : Int) * 8 ≤ s.size := by omega
      have hAb : decide ((ks.length : Int) * 8 ≤ s.size) = true := decide_eq_true hAi
      simp only [hAb]
      go_wp2_with fail
      go_loopw [5, 6, 32] (fun nv av iv wr => RaR w ks T s.data.toList nv av iv wr) (fun _ _ iv _ => ks.length - (intOf iv).toNat)
      case atStart => exact ⟨0, by omega, by rw [List.take_zero, hl]; rfl, by rw [List.take_zero]; rfl, rfl, Below.refl _ _⟩
      case round =>
        obtain ⟨i, hi, rfl, rfl, rfl, hB⟩ := hrel
        by_cases hlt : i < ks.length
        · obtain ⟨k, hkk⟩ : ∃ k, ks[i]? = some k := ⟨_, List.getElem?_eq_getElem hlt⟩
          have hR2 := HR.out.below hB
          have g0 := hR2.key i k hkk
          obtain ⟨bs, hbs⟩ := Option.isSome_iff_exists.1 ((HT.out.mem k).1 (List.mem_of_getElem? hkk))
          obtain ⟨g, cap, hc, hcells⟩ := hR2.repl k bs hbs
          have htk : ks.take (i + 1) = ks.take i ++ [k] := by rw [List.take_add_one, hkk]; rfl
          obtain rfl : bs = [] := HT.out.emp k bs hbs
          have HG := Lib.hid (show loss (ks.take (i + 1)) s.data.toList = loss (ks.take i) s.data.toList + s.data.toList.count k by rw [htk, loss_snoc])
          have HY := Lib.hid (show ((ks.take (i + 1)).any fun k => s.data.toList.count k != 0) = (((ks.take i).any fun k => s.data.toList.count k != 0) || s.data.toList.count k != 0) by rw [htk]; simp)
          have hlt1 := loss_take s.data.toList ks (i + 1)
          have hlall := escL_loss HT.out s.data.toList
          rw [HG.out] at hlt1
          rw [hl] at hlall
          have HC := Lib.hid (count1 s k)
          generalize s.data.toList.count k = N at *
          clear hR2 hkk hcells
          have hHG := HG.out
          have hHY := HY.out
          generalize loss (ks.take i) s.data.toList = GA at *
          generalize ((ks.take i).any fun k => s.data.toList.count k != 0) = AN at *
          have hGA : GA + N ≤ s.size := by omega
          clear HG HY hlt1 hlall
          by_cases hN : N = 0
          · subst hN
            have HG := Lib.hid hHG
            have HY := Lib.hid hHY
            clear hHG hHY
            go_wp2_with fail
            refine (HC.out _).mono ?_
            rintro e wz ⟨rfl, hw⟩
            subst wz
            go_wp2_with fail
            refine ⟨⟨i + 1, by omega, by rw [HG.out, Nat.add_zero, hl], by rw [HY.out]; simp, by go_num, hB⟩, by simp [intOf]; omega⟩
          · have hPi : (N : Int) * (((0 : Nat) : Int) - 1) = -(N : Int) := by omega
            have HG := Lib.hid hHG
            have HY := Lib.hid hHY
            have hNi : ¬ (N : Int) = 0 := by omega
            have hNi2 : ((N : Int) != 0) = true := by simpa using hNi
            clear hHG hHY hN
            have hix : ∀ h, ((⟨#[k]⟩ : ByteArray)[0]'h) = k := fun _ => rfl
            have hk256 : (k.toNat : Int) < 256 := by have := k.toNat_lt; omega
            go_wp2_with fail
            refine (HC.out _).mono ?_
            rintro e wz ⟨rfl, hw⟩
            subst wz
            go_upto_region 9 with fail
            go_quiet (fail)
            all_goals (go_wp2_with fail)
            go_roundw
            case rel =>
              refine ⟨i + 1, by omega, ?_, ?_, by go_num, hB.trans (Go.Joins.below_draws _ _ _)⟩
              · rw [HG.out, hl]; congr 1; omega
              · rw [HY.out]
                have : (N != 0) = true := by simp; omega
                rw [this, Bool.or_true]
            case measure => simp [intOf]; omega
        · obtain rfl : i = ks.length := by omega
          have HF := Lib.hid (show (escL T s.data.toList).length = s.data.toList.length - loss ks s.data.toList by have := escL_loss HT.out s.data.toList; omega)
          have HY := Lib.hid (any_keys HT.out s.data.toList)
          rw [List.take_length]
          go_wp2_with fail
          go_meet
          exact ⟨by rw [HF.out], by rw [HY.out], hB⟩
    · have hAi : ¬ (ks.length : Int) * 8 ≤ s.size := by omega
      have hAb : decide ((ks.length : Int) * 8 ≤ s.size) = false := decide_eq_false hAi
      simp only [hAb]
      go_wp2_with fail
      go_loopw [5, 6, 10] (fun nv av iv wr => RbR w T s.data.toList nv av iv wr) (fun _ _ iv _ => s.size - (intOf iv).toNat)
      case atStart => exact ⟨0, by omega, by rw [List.take_zero, hl]; simp [escL], by rw [List.take_zero]; rfl, rfl, Below.refl _ _⟩
      case round =>
        obtain ⟨i, hi, rfl, rfl, rfl, hB⟩ := hrel
        rw [hl] at hi
        by_cases hlt : i < s.size
        · have hR2 := HR.out.below hB
          have hei := escL_take (T := T) (l := s.data.toList) (i := i) (by omega)
          have hle := escL_le HT.out (s.data.toList.take i)
          rw [List.length_take] at hle
          have hty : ((s.data.toList.take (i + 1)).any fun c => (T c).isSome) = (((s.data.toList.take i).any fun c => (T c).isSome) || (T s[i]).isSome) := by
            rw [List.take_succ_eq_append_getElem (by omega)]; simp; rfl
          have hsi : s.data.toList[i]'(by omega) = s[i] := rfl
          rw [hsi] at hei
          have h256 : (s[i].toNat : Int) < 256 := by have := s[i].toNat_lt; omega
          have hnn := fun (wx : World) (a : Option Addr) (n c : Nat) => run_neq_slice_nil_any (P := Tryz.prog) wx 87 5 a n c 0 0 Tryz.underlying87
          rw [hl]
          have HE := Lib.hid hei
          have HY := Lib.hid hty
          clear hei hty hsi
          have hle2 : (escL T (s.data.toList.take i)).length ≤ 10000000 := by omega
          generalize (escL T (s.data.toList.take i)) = E0 at *
          generalize ((s.data.toList.take i).any fun c => (T c).isSome) = AN at *
          cases hc : T s[i] with
          | none =>
            have g0 := hR2.free _ hc
            have HE2 := Lib.hid (show (escL T (s.data.toList.take (i + 1))).length = E0.length + 1 by rw [HE.out]; unfold esc1; rw [hc]; simp)
            have HY2 := Lib.hid (show ((s.data.toList.take (i + 1)).any fun c => (T c).isSome) = AN by rw [HY.out, hc]; simp)
            clear hR2 hc HE HY hle
            go_wp2_with fail
            exact ⟨⟨i + 1, by omega, by rw [HE2.out]; congr 1; omega, by rw [HY2.out], by go_num, hB⟩, by simp [intOf]; omega⟩
          | some bs =>
            obtain ⟨g, cap, g0, _⟩ := hR2.repl _ bs hc
            obtain rfl : bs = [] := HT.out.emp _ bs hc
            have HE2 := Lib.hid (show (escL T (s.data.toList.take (i + 1))).length = E0.length by rw [HE.out]; unfold esc1; rw [hc]; simp)
            have HY2 := Lib.hid (show ((s.data.toList.take (i + 1)).any fun c => (T c).isSome) = true by rw [HY.out, hc]; simp)
            clear hR2 hc HE HY hle
            go_wp2_with fail
            exact ⟨⟨i + 1, by omega, by rw [HE2.out]; congr 1; omega, by rw [HY2.out], by go_num, hB⟩, by simp [intOf]; omega⟩
        · obtain rfl : i = s.size := by omega
          have e : s.data.toList.take s.size = s.data.toList := by rw [← hl, List.take_length]
          rw [e]
          go_wp2_with fail
          go_meet
          exact ⟨by congr 1; omega, rfl, hB⟩
  case rest =>
    obtain ⟨rfl, rfl, hB⟩ := hcut
    cases hany : (s.data.toList.any fun c => (T c).isSome) with
    | false =>
      have HS := Lib.hid (show (⟨(escL T s.data.toList).toArray⟩ : ByteArray) = s by
        rw [escL_same _ (fun c hc => by
          rw [List.any_eq_false] at hany
          have := hany c hc
          cases e : T c with | none => rfl | some bs => rw [e] at this; simp at this)])
      go_wp2_with fail
      go_ret
      exact ⟨by rw [HS.out]; rfl, hB⟩
    | true =>
      have hle := escL_le HT.out s.data.toList
      obtain ⟨n, hn⟩ : ∃ n, n = (escL T s.data.toList).length := ⟨_, rfl⟩
      rw [← hn] at hle ⊢
      have HN := Lib.hid hn
      clear hany hn
      obtain ⟨i0, hi, hz0, hz1, hz2⟩ := info_parts infoB
      go_wp2_with (at_make; refine wpList_make_full _ rfl _ _ 87 rfl w.heap.size 5 i0 (.int .u8 0) 1 Tryz.underlying87 hi hz0 hz1 _ _ _ _ n rfl rfl rfl rfl ?b2 ?b3 ?b4 ?_)
      case b2 => rw [hz2]; omega
      case b3 => unfold maxLen; omega
      case b4 => exact hB.size
      intro w2 hown hgr
      have hB2 : Below w.heap.size w w2 := hB.grown hgr hB.size (fun k hk => by cases hk)
      obtain ⟨X, hX, hXl⟩ : ∃ X : List Value, Blk w2 wc.heap.size X 5 ∧ X.length = n := by
        rcases hown.2 with ⟨h, _⟩ | ⟨g, cap, cur, hv, _, hh, hcap, _, hsz, _⟩
        · cases h
        · cases hv
          exact ⟨cur.toList, by unfold Blk; simpa using hh, by simp [hsz]⟩
      have hgw : w.heap.size ≤ wc.heap.size := hB.size
      have HX := Lib.hid hX
      clear hown hgr hX
      go_wp2_with fail
      go_loopw [13, 14] (fun jv iv wr => RcR w wc.heap.size T s.data.toList jv iv wr) (fun _ iv _ => s.size - (intOf iv).toNat)
      case atStart => exact ⟨0, X, by omega, rfl, rfl, HX.out, by rw [hXl, HN.out], rfl, hB2⟩
      case round =>
        obtain ⟨i, Y, hi', rfl, rfl, hY, hYl, hYt, hBr⟩ := hrel
        rw [hl] at hi'
        by_cases hlt : i < s.size
        · have hR2 := HR.out.below hBr
          have hei := escL_take (T := T) (l := s.data.toList) (i := i) (by omega)
          have hsi : s.data.toList[i]'(by omega) = s[i] := rfl
          rw [hsi] at hei
          have hle1 := escL_take_le (T := T) s.data.toList (i + 1)
          rw [← HN.out] at hle1 hYl
          have h256 : (s[i].toNat : Int) < 256 := by have := s[i].toNat_lt; omega
          have hnn := fun (wx : World) (a : Option Addr) (n c : Nat) => run_neq_slice_nil_any (P := Tryz.prog) wx 87 5 a n c 0 0 Tryz.underlying87
          have HE := Lib.hid hei
          have HYT := Lib.hid hYt
          clear hei hsi hYt
          generalize escL T (s.data.toList.take i) = E0 at *
          cases hc : T s[i] with
          | none =>
            have g0 := hR2.free _ hc
            have HE2 := Lib.hid (show escL T (s.data.toList.take (i + 1)) = E0 ++ [s[i]] by rw [HE.out]; unfold esc1; rw [hc])
            rw [HE2.out, List.length_append, List.length_singleton] at hle1
            have g1 := hY.cell E0.length
            rw [List.getElem?_eq_getElem (by omega)] at g1
            have z1 := hY.free E0.length
            have HB := Lib.hid hY
            clear hR2 hc HE hY
            go_wp2_with fail
            go_roundw
            case rel =>
              refine ⟨i + 1, _, by omega, by rw [HE2.out, List.length_append]; go_num, by go_num, Blk.set HB.out E0.length (.int .u8 (s[i].toNat : Int)), by rw [List.length_set, hYl, HN.out], ?_, hBr.setCell hgw _⟩
              rw [HE2.out, List.length_append, List.length_singleton, List.take_add_one, List.getElem?_set_self (by omega), List.take_set_of_le (Nat.le_refl _), HYT.out]
              unfold Lib.byteCells
              rw [List.map_append]; rfl
            case measure => simp [intOf]; omega
          | some bs =>
            obtain ⟨g, cap, g0, hcells⟩ := hR2.repl _ bs hc
            obtain rfl : bs = [] := HT.out.emp _ bs hc
            have HE2 := Lib.hid (show escL T (s.data.toList.take (i + 1)) = E0 by rw [HE.out]; unfold esc1; rw [hc]; simp)
            rw [HE2.out] at hle1
            have HB := Lib.hid hY
            have hEn : E0.length ≤ n := by omega
            have hsp : splice Y 0 [] = Y := by unfold splice; simp
            clear hR2 hc HE hY hcells
            by_cases hEne : E0.length = n
            · have HEn := Lib.hid hEne
              go_upto_region 28 with fail
              go_region_law (first
                | (refine step_copy_splice rfl (.tmp 105) (.tmp 111) 87 87 rfl 5 Tryz.underlying87 (by kernel_rfl) _ _ _ _ _ _ rfl rfl wc.heap.size 0 Y 5 HB.out [] (by simp) (fun h => absurd h (by simp)) (by simp) (by simp) w.heap.size w hBr.drew hgw ?_
                   intro w4 hg4 hb4))
              all_goals (
                have hwrap : IntKind.i64.wrap (n : Int) = (n : Int) := IntWalk.i64_in _ ⟨by omega, by omega⟩
                have HW := Lib.hid (show Blk w4 wc.heap.size Y 5 from hsp ▸ hg4.out)
                clear hg4 HB
                simp only [Act.put, List.getElem_toArray, List.getElem_cons_succ, List.getElem_cons_zero, List.setIfInBounds_toArray, List.set_cons_zero, List.set_cons_succ]
                go_wp2_with fail
                go_roundw
                case rel =>
                  exact ⟨i + 1, Y, by omega, by rw [HE2.out, HEn.out, hwrap], by go_num, HW.out, by rw [hYl, HN.out], by rw [HE2.out]; exact HYT.out, hb4⟩
                case measure => simp [intOf]; omega)
            · have hEne2 : ¬ n = E0.length := fun e => hEne e.symm
              go_upto_region 28 with fail
              go_region_law (first
                | (refine step_copy_splice rfl (.tmp 105) (.tmp 111) 87 87 rfl 5 Tryz.underlying87 (by kernel_rfl) _ _ _ _ _ _ rfl rfl wc.heap.size 0 Y 5 HB.out [] (by simp) (fun h => absurd h (by simp)) (by simp) (by simp) w.heap.size w hBr.drew hgw ?_
                   intro w4 hg4 hb4))
              all_goals (
                have hwrap : IntKind.i64.wrap (E0.length : Int) = (E0.length : Int) := IntWalk.i64_in _ ⟨by omega, by omega⟩
                have HW := Lib.hid (show Blk w4 wc.heap.size Y 5 from hsp ▸ hg4.out)
                clear hg4 HB
                simp only [Act.put, List.getElem_toArray, List.getElem_cons_succ, List.getElem_cons_zero, List.setIfInBounds_toArray, List.set_cons_zero, List.set_cons_succ]
                go_wp2_with fail
                go_roundw
                case rel =>
                  exact ⟨i + 1, Y, by omega, by rw [HE2.out, hwrap], by go_num, HW.out, by rw [hYl, HN.out], by rw [HE2.out]; exact HYT.out, hb4⟩
                case measure => simp [intOf]; omega)
        · obtain rfl : i = s.size := by omega
          have e : s.data.toList.take s.size = s.data.toList := by rw [← hl, List.take_length]
          rw [e] at hYt
          have hYe : Y = Lib.byteCells (escL T s.data.toList) := by rw [← hYt, ← hYl, List.take_length]
          have hcv := run_convert_bytes_back (P := Tryz.prog) wr 87 9 5 ⟨wc.heap.size, 0, none⟩ n (escL T s.data.toList) Tryz.underlying87 Tryz.underlying5 Tryz.underlying9 (fun j hj => by
            rw [show (⟨wc.heap.size, 0, none⟩ : Addr).add j = ⟨wc.heap.size, j, none⟩ by unfold Addr.add; split <;> simp_all, hY.cell j, hYe]
            unfold Lib.byteCells
            rw [List.getElem?_map, List.getElem?_eq_getElem hj]; rfl)
          rw [← HN.out] at hcv
          clear hYt hYe hY hYl e
          go_wp2_with fail
          go_ret
          exact ⟨rfl, hBr⟩
def stripL (l : List UInt8) : List UInt8 := l.filter fun c => c ≠ 10 && c ≠ 13
theorem strip_len (l : List UInt8) : (stripL l).length ≤ l.length := List.length_filter_le _ _
def cleanL (area : Bool) (l : List UInt8) : List UInt8 := if area then rfix l else stripL (rfix l)
theorem Rep.low {B q G0 m ks T} {w w' : World} {F : Nat → Prop} (h : Rep B q G0 m ks T w) (hc : Chg F w w') (hF : ∀ k, F k → k < B) : Rep B q G0 m ks T w' := by
  obtain ⟨hq, hG, hne, ⟨cs, hb, hl, h256, hcells⟩, hown⟩ := h
  have nF : ∀ k, B ≤ k → ¬ F k := fun k hk hf => by have := hF k hf; omega
  refine ⟨hq, hG, hne, ⟨cs, hb.chg hc (nF q hq), hl, h256, fun c => ?_⟩, ?_⟩
  · rcases hcells c with ⟨h1, h2⟩ | ⟨bs, g, cap, h1, h2, h3, h4, h5, h6, h7⟩
    · exact .inl ⟨h1, h2⟩
    · refine .inr ⟨bs, g, cap, h1, h2, h3, h4, h5, Nat.lt_of_lt_of_le h6 hc.size, fun j u hj => ?_⟩
      have hb := hc.block g h6 (nF g h3)
      have := h7 j u hj
      simp only [World.cell?] at this ⊢
      rw [hb]; exact this
  · obtain ⟨h1, h2⟩ := hown
    refine ⟨h1, ?_⟩
    rcases h2 with h2 | ⟨g, cap, cur, hv, hb, hh, rest⟩
    · exact .inl h2
    · exact .inr ⟨g, cap, cur, hv, hb, (hc.block g (lt_of_block hh) (nF g hb)).trans hh, rest⟩
set_option maxRecDepth 100000 in
set_option maxHeartbeats 2000000 in
theorem buildOnce_any (r A cap : Nat) (x3 : Value) (L : List (UInt8 × List UInt8)) (w : World) (hL : 2 ≤ L.length) (hL4 : L.length ≤ 4) (hv : ∀ p ∈ L, p.2.length ≠ 1 ∧ p.2.length ≤ 10) (hnd : (L.map (·.1)).Nodup)
    (hr : Blk w r [.int .u32 0, .int .i32 1, .int .u32 0, x3, .slice (some ⟨A, 0, none⟩) (flat L).length cap] 215) (hA : ∀ j u, ((flat L).map strC)[j]? = some u → w.cell? ⟨A, j, none⟩ = some u) :
    Calls Tryz.prog 145 #[.pointer (some ⟨r, 0, none⟩)] w fun e w' => e = .returned (.tuple #[]) ∧ ∃ y3 y4, Blk w' r [.int .u32 0, .int .i32 1, .int .u32 0, y3, y4] 215 ∧
      ∃ q G0, y3 = .iface 257 (.pointer (some ⟨q, 0, none⟩)) ∧ Rep w.heap.size q G0 L.length (L.map (·.1)).reverse (tabOf L) w' ∧ Chg (fun k => k = r) w w' := by
  have HB := Lib.hid (build_any r A cap L w hL hL4 hv hnd (hr.cell 4) hA)
  have HR := Lib.hid hr
  have hrl := hr.lt
  clear hv hnd hr hA
  go_enter Tryz.func145, Tryz.ntmps145
  go_wp2_with fail
  refine HB.out.mono ?_
  rintro e w2 ⟨q, G0, rfl, hrep, hb⟩
  have hr2 := HR.out.below hb
  have c3 := hr2.cell 3
  have z3 := hr2.free 3
  have c4 := hr2.cell 4
  have z4 := hr2.free 4
  have HR2 := Lib.hid hr2
  have HP := Lib.hid hrep
  clear hr2 hrep
  go_wp2_with fail
  go_end0
  have hc : Chg (fun k => k = r) w2 ((w2.setCell ⟨r, 3, none⟩ (.iface 257 (.pointer (some ⟨q, 0, none⟩)))).setCell ⟨r, 4, none⟩ (.slice none 0 0)) :=
    ((Chg.refl (fun k => k = r) w2).setCell ⟨r, 3, none⟩ (fun _ => (rfl : r = r)) _).setCell ⟨r, 4, none⟩ (fun _ => (rfl : r = r)) _
  exact ⟨rfl, _, _, Blk.set (Blk.set HR2.out 3 _) 4 _, q, G0, rfl, HP.out.low hc (fun k hk => by subst hk; exact hrl), (Chg.of_below hb).trans hc (fun _ _ h => h)⟩
set_option maxRecDepth 100000 in
set_option maxHeartbeats 2000000 in
theorem useRep_any (r A cap : Nat) (L : List (UInt8 × List UInt8)) (s : ByteArray) (w : World) (hs : s.size ≤ 1000000) (hL : 2 ≤ L.length) (hL4 : L.length ≤ 4) (hv : ∀ p ∈ L, p.2.length ≠ 1 ∧ p.2.length ≤ 10) (hnd : (L.map (·.1)).Nodup)
    (hT : Tbl (L.map (·.1)).reverse (tabOf L))
    (hr : Blk w r [.int .u32 0, .int .i32 0, .int .u32 0, .nilIface, .slice (some ⟨A, 0, none⟩) (flat L).length cap] 215) (hA : ∀ j u, ((flat L).map strC)[j]? = some u → w.cell? ⟨A, j, none⟩ = some u) (hAr : A ≠ r) :
    Calls Tryz.prog 119 #[.pointer (some ⟨r, 0, none⟩), .string s] w fun e w' => e = .returned (.string ⟨(escL (tabOf L) s.data.toList).toArray⟩) ∧ Chg (fun k => k = r) w w' := by
  have hr1 := Blk.set hr 1 (.int .i32 1)
  have hA1 : ∀ j u, ((flat L).map strC)[j]? = some u → (w.setCell ⟨r, 1, none⟩ (.int .i32 1)).cell? ⟨A, j, none⟩ = some u := fun j u hj => by
    rw [World.cell?_setCell_other _ ⟨r, 1, none⟩ ⟨A, j, none⟩ _ (fun e => hAr (congrArg Addr.block e).symm)]; exact hA j u hj
  have HD := Lib.hid (do_first r .nilIface (.slice (some ⟨A, 0, none⟩) (flat L).length cap) w hr (fun y3 y4 w' => ∃ q G0, y3 = .iface 257 (.pointer (some ⟨q, 0, none⟩)) ∧ Rep (w.setCell ⟨r, 1, none⟩ (.int .i32 1)).heap.size q G0 L.length (L.map (·.1)).reverse (tabOf L) w' ∧ Chg (fun k => k = r) (w.setCell ⟨r, 1, none⟩ (.int .i32 1)) w')
    (fun w1 hw1 => by subst hw1; exact buildOnce_any r A cap .nilIface L _ hL hL4 hv hnd hr1 hA1))
  have HT := Lib.hid hT
  have hrl := hr.lt
  have hmf : ∀ (fn : Fn) (first cap : Array Value) (w : World), (Instr.makeFunc fn first cap).run Tryz.prog w = .ok (.func fn first cap) w := fun _ _ _ _ => rfl
  have hch1 : Chg (fun k => k = r) w (w.setCell ⟨r, 1, none⟩ (.int .i32 1)) := (Chg.refl (fun k => k = r) w).setCell ⟨r, 1, none⟩ (fun _ => (rfl : r = r)) _
  clear hv hnd hr hA hr1 hA1 hT
  go_enter Tryz.func119, Tryz.ntmps119
  go_wp2_with fail
  refine HD.out.mono ?_
  rintro e w2 ⟨rfl, w3, y3, y4, hb, ⟨q, G0, rfl, hrep, hch⟩, rfl⟩
  have hc4 : Chg (fun k => k = r) w3 ((w3.drew.setCell ⟨r, 0, none⟩ (.int .u32 1)).setCell ⟨r, 1, none⟩ (.int .i32 0)) :=
    (((Chg.refl (fun k => k = r) w3).drew).setCell ⟨r, 0, none⟩ (fun _ => (rfl : r = r)) _).setCell ⟨r, 1, none⟩ (fun _ => (rfl : r = r)) _
  have hrep4 := hrep.low hc4 (fun k hk => by subst hk; simp only [World.setCell, Array.size_modify]; exact hrl)
  have hb4 : Blk ((w3.drew.setCell ⟨r, 0, none⟩ (.int .u32 1)).setCell ⟨r, 1, none⟩ (.int .i32 0)) r [.int .u32 1, .int .i32 0, .int .u32 0, .iface 257 (.pointer (some ⟨q, 0, none⟩)), y4] 215 :=
    Blk.set (Blk.set (w := w3.drew) hb 0 (.int .u32 1)) 1 (.int .i32 0)
  have hch4 := (hch1.trans hch (fun _ _ h => h)).trans hc4 (fun _ _ h => h)
  have c3 := hb4.cell 3
  have HRC := Lib.hid (RepC.of hrep4 (by simp; omega))
  clear hb hrep hch hc4 hrep4 hb4 HD
  generalize (w3.drew.setCell ⟨r, 0, none⟩ (.int .u32 1)).setCell ⟨r, 1, none⟩ (.int .i32 0) = w4 at *
  go_wp2_with fail
  refine (replace_any q G0 _ _ _ s w4 hs (by simp; omega) HRC.out HT.out).mono ?_
  rintro e w5 ⟨rfl, hb5⟩
  go_wp2_with fail
  go_ret
  exact ⟨rfl, hch4.trans (G := fun k => k = r) (Chg.of_below hb5) (fun _ _ h => h)⟩
theorem rep_pair (L : List (UInt8 × List UInt8)) (hL : 2 ≤ L.length) (hL4 : L.length ≤ 4) (hv : ∀ p ∈ L, p.2.length ≠ 1 ∧ p.2.length ≤ 10) (hnd : (L.map (·.1)).Nodup) (hT : Tbl (L.map (·.1)).reverse (tabOf L)) (B A : Nat) (w : World)
    (hA : ∀ j u, ((flat L).map strC)[j]? = some u → w.cell? ⟨A, j, none⟩ = some u) (hB : B ≤ w.heap.size) :
    Calls Tryz.prog 118 #[.slice (some ⟨A, 0, none⟩) (flat L).length (flat L).length] w fun e w' => ∃ r, e = .returned (.pointer (some ⟨r, 0, none⟩)) ∧ Below B w w' ∧
      ∀ s : ByteArray, s.size ≤ 1000000 → Calls Tryz.prog 119 #[.pointer (some ⟨r, 0, none⟩), .string s] w' fun e w2 => e = .returned (.string ⟨(escL (tabOf L) s.data.toList).toArray⟩) ∧ Below B w' w2 := by
  have hf := flatR_len L
  refine (newRep_any B A (flat L) w (by omega) (by omega) (by omega) hA hB).mono ?_
  rintro e w' ⟨r, v, rfl, hBr, hblk, hown, hb⟩
  refine ⟨r, rfl, hb, fun s hs => ?_⟩
  have hvr : v.ownBlock ≠ some r := Lib.ownBlock_ne hown hblk (by decide)
  obtain ⟨A2, cap, rfl⟩ : ∃ A2 cap, v = .slice (some ⟨A2, 0, none⟩) (flat L).length cap := by
    rcases hown.2 with ⟨_, h⟩ | ⟨g, cap, cur, hv, _⟩
    · omega
    · exact ⟨g, cap, hv⟩
  have hcell : ∀ j u, ((flat L).map strC)[j]? = some u → w'.cell? ⟨A2, j, none⟩ = some u := fun j u hj => by
    have := hown.cells (g := A2) rfl j u hj
    rwa [show (⟨A2, 0, none⟩ : Addr).add j = ⟨A2, j, none⟩ by unfold Addr.add; split <;> simp_all] at this
  refine (useRep_any r A2 cap L s w' hs hL hL4 hv hnd hT hblk hcell (fun e => hvr (by rw [e]; rfl))).mono ?_
  rintro e w2 ⟨rfl, hc⟩
  exact ⟨rfl, hc.below (Nat.le_trans hB hb.size) (fun k hk => by subst hk; exact hBr)⟩
def lisC : List (UInt8 × List UInt8) := [(10, []), (13, [])]
theorem tblC : Tbl (lisC.map (·.1)).reverse (tabOf lisC) := by
  refine ⟨by decide, fun c => ?_, fun c bs h => ?_⟩
  · have : tabOf lisC c = (lisC.find? (fun p => p.1 == c)).map (·.2) := rfl
    rw [this, Option.isSome_map, List.find?_isSome]
    simp only [List.mem_reverse, List.mem_map, beq_iff_eq]
  · obtain ⟨p, hp, rfl⟩ := Option.map_eq_some_iff.1 h
    have e : ∀ p ∈ lisC, p.2 = [] := by decide
    exact e p (List.mem_of_find?_eq_some hp)
theorem cellsC (w : World) : ∀ j u, ((flat lisC).map strC)[j]? = some u → (w.alloc (.cells ((flat lisC).map strC).toArray 9)).cell? ⟨w.heap.size, j, none⟩ = some u := fun j u hj => by
  rw [Go.Joins.cell_alloc_mark_at _ _ _ _ _ _ rfl]; simpa using hj
theorem escC : ∀ l : List UInt8, escL (tabOf lisC) l = stripL l
  | [] => rfl
  | c :: l => by
    have ih := escC l
    unfold escL stripL at ih ⊢
    rw [List.flatMap_cons, ih]
    by_cases h1 : c = 10
    · subst h1; rfl
    · by_cases h2 : c = 13
      · subst h2; rfl
      · have e1 : tabOf lisC c = none := by
          show (lisC.find? (fun p => p.1 == c)).map (·.2) = none
          rw [List.find?_eq_none.2]
          · rfl
          · intro p hp
            simp only [lisC, List.mem_cons, List.not_mem_nil, or_false] at hp
            rcases hp with rfl | rfl
            · simpa using fun e => h1 e.symm
            · simpa using fun e => h2 e.symm
        rw [List.filter_cons_of_pos (by simp [h1, h2])]
        unfold esc1
        rw [e1]; rfl
section
variable {B : Nat} {w0 w : World} {R : Nat} {hd : Int} {l : List Ob} {O : Ob} {k : Nat} {v : List UInt8}
set_option maxRecDepth 100000 in
set_option maxHeartbeats 4000000 in
theorem clean_any (h : All B w0 l w) (hO : O ∈ l) (hF : FdOk B w0 R O hd k v) (hk : k = 1 ∨ k = 2) (hL : ∀ wx, Below B w0 wx → Laid wx) (x : List UInt8) (hx : x.length ≤ 10000) :
    Calls Tryz.prog 63 #[.pointer (some ⟨R, 0, none⟩), .int .i64 hd, .string ⟨x.toArray⟩] w fun e w' => e = .returned (.string ⟨(cleanL (decide (k = 2)) x).toArray⟩) ∧ Below w.heap.size w w' := by
  have HRp := Lib.hid (repair_any x w (by omega) (hL w h.below))
  have HK := Lib.hid (fun wx (hb : Below w.heap.size w wx) => hF.kindA hO (h.still hb))
  have hfl := fix_len x
  rw [fix_rfix] at HRp hfl
  clear h hO hF hL
  rcases hk with rfl | rfl
  · have e1 : cleanL (decide (1 = 2)) x = stripL (rfix x) := rfl
    rw [e1, ← escC]
    generalize rfix x = y at *
    have HP := Lib.hid (fun w1 => rep_pair lisC (by decide) (by decide) (by decide) (by decide) tblC w1.heap.size w1.heap.size _ (cellsC w1) (by simp))
    have hy : (⟨y.toArray⟩ : ByteArray).size ≤ 1000000 := by show y.toArray.size ≤ _; simp; omega
    go_enter Tryz.func63, Tryz.ntmps63
    go_wp2_with fail
    refine HRp.out.mono ?_
    rintro e w1 ⟨rfl, hb1⟩
    go_wp2_with fail
    refine (HK.out _ hb1).mono ?_
    rintro e w2 ⟨rfl, hb2⟩
    have hb2' := bthen hb1 hb2
    have hbl := (Below.refl w2.heap.size w2).alloc (Nat.le_refl _) (.cells ((flat lisC).map strC).toArray 9)
    go_wp2_with fail
    refine (HP.out w2).mono ?_
    rintro e w3 ⟨r, rfl, hb3, hrep⟩
    have HR := Lib.hid (hrep ⟨y.toArray⟩ hy)
    clear hrep
    go_wp2_with fail
    refine HR.out.mono ?_
    rintro e w4 ⟨rfl, hb4⟩
    go_wp2_with fail
    go_ret
    exact ⟨rfl, bthen hb2' ((hbl.trans hb3).trans hb4)⟩
  · have e1 : cleanL (decide (2 = 2)) x = rfix x := rfl
    rw [e1]
    generalize rfix x = y at *
    go_enter Tryz.func63, Tryz.ntmps63
    go_wp2_with fail
    refine HRp.out.mono ?_
    rintro e w1 ⟨rfl, hb1⟩
    go_wp2_with fail
    refine (HK.out _ hb1).mono ?_
    rintro e w2 ⟨rfl, hb2⟩
    go_wp2_with fail
    go_ret
    exact ⟨rfl, bthen hb1 hb2⟩
end
end Go.Proofs.YtacdbnhnhdlmpaaGreatDoor.W
end
