/- Texts joined: Own Top Mrk FmO Fst. -/
import Derived.Test.YtacdbnhnhdlmpaaGreatDoorFH1
import Derived.LoopTactic
set_option maxRecDepth 100000
set_option maxHeartbeats 40000000
set_option linter.unusedVariables false
set_option linter.unusedSimpArgs false
section
namespace Go.Proofs.YtacdbnhnhdlmpaaGreatDoor.W
open Go.RowKit
def ownF (S : Tr) : Nat → Option Nat → Option Nat
  | 0, _ => none
  | _, none => none
  | f + 1, some x => if (S.at x).map (fun n => n.name) = some sForm then some x else ownF S f (pr S x)
def ownI (S : Tr) (d : Nat → Nat) (i : Nat) : Option Nat := ownF S (dO d (pr S i)) (pr S i)
theorem ownF_none (S : Tr) (f : Nat) : ownF S f none = none := by cases f <;> rfl
set_option maxRecDepth 100000 in
set_option maxHeartbeats 4000000 in
theorem owner_any {B R : Nat} {S : Tr} {sv fv : Value} {w : World} {K : Nat → List Nat} {d : Nat → Nat} (h : TAt B R S sv fv w) (hL : Lk S K d) (hal : ∀ i n, S.at i = some n → n.attrs.length ≤ 1000) (hnm : ∀ i n, S.at i = some n → n.kind ≠ 2 → n.name = []) (i : Nat) (n : Nd) (hi : S.at i = some n) :
    Calls Tryz.prog 32 #[.pointer (some ⟨R, 0, none⟩), .int .i64 (S.hd i)] w fun e w' => e = .returned (.int .i64 (hO S (ownI S d i))) ∧ Below w.heap.size w w' := by
  have HN := Lib.hid (fun (k : Nat) (nk : Nd) (hk : S.at k = some nk) (wx : World) (hb : Below w.heap.size w wx) => node_some (h.below hb) (S.hd k) (hd_ok hL hk).1 (hd_ix hL hk) (at_slot hk) (hal k nk hk))
  have HAv := Lib.hid (fun (k : Nat) (nk : Nd) (hk : S.at k = some nk) => h.attrs k nk (at_slot hk))
  obtain ⟨o0, hpar, hu0, _, _⟩ := par_of hL hi
  have hpr := pr_of hL hi hpar hu0
  have HT := Lib.hid (show ownI S d i = ownF S (dO d o0) o0 from by unfold ownI; rw [hpr])
  have HN0 := Lib.hid (HN.out i n hi w (Below.refl _ _))
  have hat := HAv.out i n hi
  have HL := Lib.hid hL
  have HNm := Lib.hid hnm
  generalize ownI S d i = tg at *
  obtain ⟨nk, nm, nav, nal, nda, np, nf, nl, npv, nx⟩ := n
  simp only at HN0 hpar hat
  obtain ⟨ta, tc, rfl, _⟩ := hat
  subst hpar
  clear h hL hal hnm hi hpr
  go_enter Tryz.func32, Tryz.ntmps32
  go_wp2_with fail
  refine HN0.out.mono ?_
  rintro e w1 ⟨v', rfl, ho, hb1⟩
  obtain ⟨va, vc, rfl⟩ := own_shapeB ho
  clear ho
  simp only [ndC, strV]
  have c4 := (Blk.new w1 [.int .i64 nk, .string ⟨nm.toArray⟩, .slice va nal.length vc, .string ⟨nda.toArray⟩, .int .i64 (hO S o0), .int .i64 nf, .int .i64 nl, .int .i64 npv, .int .i64 nx] 135).cell 4
  simp only [List.getElem?_cons_zero, List.getElem?_cons_succ] at c4
  have HB2 := Lib.hid (hb1.alloc hb1.size (.cells #[.int .i64 nk, .string ⟨nm.toArray⟩, .slice va nal.length vc, .string ⟨nda.toArray⟩, .int .i64 (hO S o0), .int .i64 nf, .int .i64 nl, .int .i64 npv, .int .i64 nx] 135))
  clear hb1
  go_wp2_with fail
  go_loopw [7] (fun kv wr => ∃ o : Option Nat, UsedO S o ∧ kv = .int .i64 (hO S o) ∧ tg = ownF S (dO d o) o ∧ Below w.heap.size w wr) (fun kv _ => dO d (S.ix (hnum kv)))
  case atStart => exact ⟨o0, hu0, rfl, HT.out, HB2.out⟩
  case round =>
    obtain ⟨o, hu, rfl, hc, hB⟩ := hrel
    cases o with
    | none =>
      have HC := Lib.hid (hc.trans (ownF_none S _))
      clear hc
      rw [show hO S none = 0 from rfl]
      go_wp2_with fail
      go_ret
      exact ⟨by rw [HC.out]; rfl, hB⟩
    | some x =>
      obtain ⟨y, hx⟩ := Option.isSome_iff_exists.1 (hu x rfl)
      obtain ⟨o2, hpar, hu2, hn1, hn2⟩ := par_of HL.out hx
      have hpr := pr_of HL.out hx hpar hu2
      have hdd : d x = dO d o2 + 1 := by
        cases o2 with
        | none => exact (hn1 rfl).1
        | some p => exact (hn2 p rfl).2
      have hstep : ownF S (dO d (Option.some x)) (Option.some x) = if y.name = sForm then Option.some x else ownF S (dO d o2) o2 := by
        show ownF S (d x) (Option.some x) = _
        rw [hdd]
        show (if (S.at x).map (fun n => n.name) = Option.some sForm then Option.some x else ownF S (dO d o2) (pr S x)) = _
        rw [hpr, hx]
        simp
      have HStep := Lib.hid (hc.trans hstep)
      have hix := hd_ix HL.out hx
      have hix2 := hO_ix HL.out hu2
      have hpos := (hd_ok HL.out hx).2
      have HX := Lib.hid (HN.out x y hx wr hB)
      have hat := HAv.out x y hx
      have hnk := HNm.out x y hx
      obtain ⟨yk, ym, yav, yal, yda, yp, yf, yl, ypv, yx⟩ := y
      simp only at HStep hpar HX hat hnk
      obtain ⟨ua, uc, rfl, _⟩ := hat
      subst hpar
      rw [show hO S (Option.some x) = S.hd x from rfl]
      have hne : (S.hd x != 0) = true := by simp; omega
      have hms : dO d o2 < dO d (Option.some x) := by show dO d o2 < d x; omega
      clear hc hstep hpr hdd hx hpos
      go_wp2_with fail
      refine HX.out.mono ?_
      rintro e w2 ⟨v', rfl, ho, hb2⟩
      obtain ⟨wa, wc, rfl⟩ := own_shapeB ho
      clear ho
      simp only [ndC, strV]
      have kb := Blk.new w2 [.int .i64 yk, .string ⟨ym.toArray⟩, .slice wa yal.length wc, .string ⟨yda.toArray⟩, .int .i64 (hO S o2), .int .i64 yf, .int .i64 yl, .int .i64 ypv, .int .i64 yx] 135
      have c0 := kb.cell 0
      have c1 := kb.cell 1
      have c4 := kb.cell 4
      simp only [List.getElem?_cons_zero, List.getElem?_cons_succ] at c0 c1 c4
      have HB3 := Lib.hid (bthen hB (hb2.alloc hb2.size (.cells #[.int .i64 yk, .string ⟨ym.toArray⟩, .slice wa yal.length wc, .string ⟨yda.toArray⟩, .int .i64 (hO S o2), .int .i64 yf, .int .i64 yl, .int .i64 ypv, .int .i64 yx] 135)))
      clear hb2 kb hB
      by_cases hf : ym = sForm
      · have e1 : (ym == [102, 111, 114, 109]) = true := beqT hf
        have HR := Lib.hid (HStep.out.trans (if_pos hf))
        clear hf hnk
        go_wp2_with fail
        go_ret
        exact ⟨by rw [HR.out]; rfl, HB3.out⟩
      · have e1 : (ym == [102, 111, 114, 109]) = false := beqF hf
        have HR := Lib.hid (HStep.out.trans (if_neg hf))
        clear hf
        clear hnk
        go_wp2_with fail
        go_roundw
        case rel => exact ⟨o2, hu2, rfl, HR.out, HB3.out⟩
        case measure =>
          show dO d (S.ix (hO S o2)) < dO d (S.ix (S.hd x))
          rw [hix2, hix]
          exact hms
set_option maxRecDepth 100000 in
set_option maxHeartbeats 4000000 in
theorem sowner_any {B R : Nat} {S : Tr} {sv fv : Value} {w : World} {K : Nat → List Nat} {d : Nat → Nat} (h : TAt B R S sv fv w) (hL : Lk S K d) (hal : ∀ i n, S.at i = some n → n.attrs.length ≤ 1000) (hnm : ∀ i n, S.at i = some n → n.kind ≠ 2 → n.name = []) (i : Nat) (n : Nd) (hi : S.at i = some n) :
    Calls Tryz.prog 33 #[.pointer (some ⟨R, 0, none⟩), .int .i64 (S.hd i)] w fun e w' => e = .returned (.int .i64 (hO S (ownI S d i))) ∧ Below w.heap.size w w' := by
  obtain ⟨g, cap, rfl⟩ := slots_some h (by have := at_lt hi; omega)
  have HN := Lib.hid (fun (k : Nat) (nk : Nd) (hk : S.at k = some nk) (wx : World) (hb : Below w.heap.size w wx) => snode_some (h.below hb) (S.hd k) (hd_ok hL hk).1 (hd_ix hL hk) (at_slot hk))
  have HAv := Lib.hid (fun (k : Nat) (nk : Nd) (hk : S.at k = some nk) => h.attrs k nk (at_slot hk))
  obtain ⟨o0, hpar, hu0, _, _⟩ := par_of hL hi
  have hpr := pr_of hL hi hpar hu0
  have HT := Lib.hid (show ownI S d i = ownF S (dO d o0) o0 from by unfold ownI; rw [hpr])
  have HN0 := Lib.hid (HN.out i n hi w (Below.refl _ _))
  have hat := HAv.out i n hi
  have HL := Lib.hid hL
  have HNm := Lib.hid hnm
  generalize ownI S d i = tg at *
  obtain ⟨nk, nm, nav, nal, nda, np, nf, nl, npv, nx⟩ := n
  simp only at HN0 hpar hat
  obtain ⟨ta, tc, rfl, _⟩ := hat
  subst hpar
  clear h hL hal hnm hi hpr
  go_enter Tryz.func33, Tryz.ntmps33
  go_wp2_with fail
  refine HN0.out.mono ?_
  rintro e w1 ⟨rfl, hb1⟩
  simp only [ndC, strV]
  have c4 := (Blk.new w1 [.int .i64 nk, .string ⟨nm.toArray⟩, .slice ta nal.length tc, .string ⟨nda.toArray⟩, .int .i64 (hO S o0), .int .i64 nf, .int .i64 nl, .int .i64 npv, .int .i64 nx] 135).cell 4
  simp only [List.getElem?_cons_zero, List.getElem?_cons_succ] at c4
  have HB2 := Lib.hid (hb1.alloc hb1.size (.cells #[.int .i64 nk, .string ⟨nm.toArray⟩, .slice ta nal.length tc, .string ⟨nda.toArray⟩, .int .i64 (hO S o0), .int .i64 nf, .int .i64 nl, .int .i64 npv, .int .i64 nx] 135))
  clear hb1
  go_wp2_with fail
  go_loopw [7] (fun kv wr => ∃ o : Option Nat, UsedO S o ∧ kv = .int .i64 (hO S o) ∧ tg = ownF S (dO d o) o ∧ Below w.heap.size w wr) (fun kv _ => dO d (S.ix (hnum kv)))
  case atStart => exact ⟨o0, hu0, rfl, HT.out, HB2.out⟩
  case round =>
    obtain ⟨o, hu, rfl, hc, hB⟩ := hrel
    cases o with
    | none =>
      have HC := Lib.hid (hc.trans (ownF_none S _))
      clear hc
      rw [show hO S none = 0 from rfl]
      go_wp2_with fail
      go_ret
      exact ⟨by rw [HC.out]; rfl, hB⟩
    | some x =>
      obtain ⟨y, hx⟩ := Option.isSome_iff_exists.1 (hu x rfl)
      obtain ⟨o2, hpar, hu2, hn1, hn2⟩ := par_of HL.out hx
      have hpr := pr_of HL.out hx hpar hu2
      have hdd : d x = dO d o2 + 1 := by
        cases o2 with
        | none => exact (hn1 rfl).1
        | some p => exact (hn2 p rfl).2
      have hstep : ownF S (dO d (Option.some x)) (Option.some x) = if y.name = sForm then Option.some x else ownF S (dO d o2) o2 := by
        show ownF S (d x) (Option.some x) = _
        rw [hdd]
        show (if (S.at x).map (fun n => n.name) = Option.some sForm then Option.some x else ownF S (dO d o2) (pr S x)) = _
        rw [hpr, hx]
        simp
      have HStep := Lib.hid (hc.trans hstep)
      have hix := hd_ix HL.out hx
      have hix2 := hO_ix HL.out hu2
      have hpos := (hd_ok HL.out hx).2
      have HX := Lib.hid (HN.out x y hx wr hB)
      have hat := HAv.out x y hx
      have hnk := HNm.out x y hx
      obtain ⟨yk, ym, yav, yal, yda, yp, yf, yl, ypv, yx⟩ := y
      simp only at HStep hpar HX hat hnk
      obtain ⟨ua, uc, rfl, _⟩ := hat
      subst hpar
      rw [show hO S (Option.some x) = S.hd x from rfl]
      have hne : (S.hd x != 0) = true := by simp; omega
      have hms : dO d o2 < dO d (Option.some x) := by show dO d o2 < d x; omega
      clear hc hstep hpr hdd hx hpos
      go_wp2_with fail
      refine HX.out.mono ?_
      rintro e w2 ⟨rfl, hb2⟩
      simp only [ndC, strV]
      have kb := Blk.new w2 [.int .i64 yk, .string ⟨ym.toArray⟩, .slice ua yal.length uc, .string ⟨yda.toArray⟩, .int .i64 (hO S o2), .int .i64 yf, .int .i64 yl, .int .i64 ypv, .int .i64 yx] 135
      have c0 := kb.cell 0
      have c1 := kb.cell 1
      have c4 := kb.cell 4
      simp only [List.getElem?_cons_zero, List.getElem?_cons_succ] at c0 c1 c4
      have HB3 := Lib.hid (bthen hB (hb2.alloc hb2.size (.cells #[.int .i64 yk, .string ⟨ym.toArray⟩, .slice ua yal.length uc, .string ⟨yda.toArray⟩, .int .i64 (hO S o2), .int .i64 yf, .int .i64 yl, .int .i64 ypv, .int .i64 yx] 135)))
      clear hb2 kb hB
      by_cases hf : ym = sForm
      · have e1 : (ym == [102, 111, 114, 109]) = true := beqT hf
        have HR := Lib.hid (HStep.out.trans (if_pos hf))
        have hk2 : yk = 2 := by
          by_cases e : yk = 2
          · exact e
          · have := hnk e; rw [hf] at this; cases this
        subst hk2
        clear hf hnk
        go_wp2_with fail
        go_ret
        exact ⟨by rw [HR.out]; rfl, HB3.out⟩
      · have e1 : (ym == [102, 111, 114, 109]) = false := beqF hf
        have HR := Lib.hid (HStep.out.trans (if_neg hf))
        clear hf
        by_cases e : yk = 2
        · have e2 : (yk == 2) = true := by simpa using e
          clear hnk e
          go_wp2_with fail
          go_roundw
          case rel => exact ⟨o2, hu2, rfl, HR.out, HB3.out⟩
          case measure =>
            show dO d (S.ix (hO S o2)) < dO d (S.ix (S.hd x))
            rw [hix2, hix]
            exact hms
        · have e2 : (yk == 2) = false := by simpa using e
          clear hnk e
          go_wp2_with fail
          go_roundw
          case rel => exact ⟨o2, hu2, rfl, HR.out, HB3.out⟩
          case measure =>
            show dO d (S.ix (hO S o2)) < dO d (S.ix (S.hd x))
            rw [hix2, hix]
            exact hms
end Go.Proofs.YtacdbnhnhdlmpaaGreatDoor.W
end
section
namespace Go.Proofs.YtacdbnhnhdlmpaaGreatDoor.W
open Go.RowKit
def topF (S : Tr) : Nat → Nat → Nat
  | 0, x => x
  | f + 1, x => match pr S x with
    | none => x
    | some p => topF S f p
def TpR (w : World) (S : Tr) (d : Nat → Nat) (g i : Nat) (hv nv : Value) (wr : World) : Prop :=
  ∃ x, (S.at x).isSome = true ∧ hv = .int .i64 (S.hd x) ∧ nv = .pointer (some (na g x)) ∧ topF S (d x) x = topF S (d i) i ∧ d x ≤ d i ∧ Below w.heap.size w wr
set_option maxRecDepth 100000 in
set_option maxHeartbeats 4000000 in
theorem top_some {B R g cap : Nat} {S : Tr} {fv : Value} {w : World} {K : Nat → List Nat} {d : Nat → Nat} (h : TAt B R S (.slice (some ⟨g, 0, none⟩) S.slots.length cap) fv w) (hL : Lk S K d) (i : Nat) (n : Nd) (hi : S.at i = some n) :
    Calls Tryz.prog 124 #[.pointer (some ⟨R, 0, none⟩), .int .i64 (S.hd i)] w fun e w' => e = .returned (.int .i64 (S.hd (topF S (d i) i))) ∧ Below w.heap.size w w' := by
  have HA := Lib.hid (at_some h (S.hd i) (hd_ok hL hi).1 (hd_ix hL hi))
  have HT := Lib.hid h
  have HL := Lib.hid hL
  have hui : (S.at i).isSome = true := by rw [hi]; rfl
  clear h hL hi
  go_enter Tryz.func124, Tryz.ntmps124
  go_wp2_with fail
  refine HA.out.mono ?_
  rintro e w2 ⟨rfl, hb2⟩
  go_wp2_with fail
  go_loopw [1, 5] (fun hv nv wr => TpR w S d g i hv nv wr) (fun hv _ _ => d ((S.ix (intOf hv)).getD 0))
  case atStart => exact ⟨i, hui, rfl, rfl, rfl, Nat.le_refl _, hb2⟩
  case round =>
    obtain ⟨x, hx, rfl, rfl, htop, hdx, hB⟩ := hrel
    obtain ⟨nx, hnx⟩ := Option.isSome_iff_exists.1 hx
    have cx := nd_cell (HT.out.below hB) hnx 4 (by omega)
    rw [show (ndC nx)[4]? = Option.some (.int .i64 nx.parent) from rfl] at cx
    have hixx := hd_ix HL.out hnx
    have hpos := HL.out.pos x hx
    by_cases hk : ∃ q, x ∈ K q
    · obtain ⟨q, hq⟩ := hk
      obtain ⟨nq, hnq⟩ := Option.isSome_iff_exists.1 (HL.out.kin q x hq).1
      obtain ⟨j, hj⟩ := List.mem_iff_getElem?.1 hq
      have hpar := (HL.out.kid q j x nx hj hnx).1
      have hdq := HL.out.dep q x hq
      have hpr := pr_kid HL.out hq
      have hixq := hd_ix HL.out hnq
      have HQ := Lib.hid (at_some (HT.out.below hB) (S.hd q) (hd_ok HL.out hnq).1 hixq)
      have hq0 := (hd_ok HL.out hnq).2
      have hne : (S.hd q == 0) = false := by simp; omega
      rw [hpar] at cx
      have HS := Lib.hid (fun w5 (hb : Below w.heap.size w w5) => (show TpR w S d g i (.int .i64 (S.hd q)) (.pointer (some (na g q))) w5 from ⟨q, by rw [hnq]; rfl, rfl, rfl, by rw [← htop, hdq]; simp only [topF, hpr], by omega, hb⟩))
      have hms : d ((S.ix (S.hd q)).getD 0) < d ((S.ix (S.hd x)).getD 0) := by rw [hixq, hixx]; show d q < d x; omega
      have HB := Lib.hid hB
      clear hpr hpar hj hnq hnx hq hx hixq hixx htop hB
      go_wp2_with fail
      refine HQ.out.mono ?_
      rintro e w5 ⟨rfl, hb5⟩
      have HB5 := Lib.hid (HB.out.trans (hb5.mono HB.out.size))
      clear hb5
      go_wp2_with fail
      exact ⟨HS.out _ HB5.out, by simpa [intOf] using hms⟩
    · have hpar := (HL.out.top x nx hnx (fun q hq => hk ⟨q, hq⟩)).1
      rw [hpar] at cx
      have hpr : pr S x = none := by
        unfold pr; rw [hnx]; show S.ix nx.parent = none; rw [hpar]; exact ix_zero S
      have HE := Lib.hid (show S.hd x = S.hd (topF S (d i) i) by
        rw [← htop]
        obtain ⟨m, hm⟩ : ∃ m, d x = m + 1 := ⟨d x - 1, by omega⟩
        rw [hm]; simp only [topF, hpr])
      have HB := Lib.hid hB
      clear hpr hpar hnx hx hixx htop hB hk
      go_wp2_with fail
      go_ret
      exact ⟨by rw [← HE.out]; rfl, HB.out⟩
end Go.Proofs.YtacdbnhnhdlmpaaGreatDoor.W
end
section
namespace Go.Proofs.YtacdbnhnhdlmpaaGreatDoor.W
def lastM : List (Int × Bool) → Int → Option Bool
  | [], _ => none
  | p :: m, h => match lastM m h with
    | some b => some b
    | none => if p.1 = h then some p.2 else none
theorem lastM_app (m m' : List (Int × Bool)) (h : Int) : lastM (m ++ m') h = match lastM m' h with | some b => some b | none => lastM m h := by
  induction m with
  | nil => simp only [List.nil_append, lastM]; cases lastM m' h <;> rfl
  | cons p m ih =>
    simp only [List.cons_append, lastM, ih]
    cases lastM m' h <;> rfl
theorem lastM_snoc (m : List (Int × Bool)) (a : Int) (b : Bool) (h : Int) : lastM (m ++ [(a, b)]) h = if h = a then some b else lastM m h := by
  rw [lastM_app]
  simp only [lastM]
  by_cases e : a = h
  · rw [if_pos e, if_pos e.symm]
  · rw [if_neg e, if_neg (fun q => e q.symm)]
theorem lastM_falses (m : List (Int × Bool)) (l : List Int) (h : Int) : lastM (m ++ l.map (fun a => (a, false))) h = if h ∈ l then some false else lastM m h := by
  induction l generalizing m with
  | nil => simp
  | cons a l ih =>
    rw [List.map_cons, show m ++ (a, false) :: l.map (fun a => (a, false)) = (m ++ [(a, false)]) ++ l.map (fun a => (a, false)) by simp, ih, lastM_snoc]
    by_cases e : h = a
    · subst e; simp
    · simp [e]
def setU (G : Int → List Int) (rd : Int → Bool) (u : Int → Option Bool) (h : Int) (on : Bool) (x : Int) : Option Bool :=
  if x = h then some on else if rd h = true ∧ on = true ∧ x ∈ G h then some false else u x
def setM (G : Int → List Int) (rd : Int → Bool) (m : List (Int × Bool)) (h : Int) (on : Bool) : List (Int × Bool) :=
  (m ++ [(h, on)]) ++ (if rd h = true ∧ on = true then ((G h).filter (fun x => x != h)).map (fun a => (a, false)) else [])
theorem setM_last (G : Int → List Int) (rd : Int → Bool) (m : List (Int × Bool)) (h : Int) (on : Bool) (x : Int) : lastM (setM G rd m h on) x = setU G rd (lastM m) h on x := by
  unfold setM setU
  by_cases hr : rd h = true ∧ on = true
  · rw [if_pos hr, lastM_falses, lastM_snoc]
    by_cases e : x = h
    · subst e; simp
    · simp [e, hr]
  · rw [if_neg hr, List.append_nil, lastM_snoc]
    by_cases e : x = h
    · rw [if_pos e, if_pos e]
    · rw [if_neg e, if_neg e, if_neg (fun q => hr ⟨q.1, q.2.1⟩)]
def radioP (u : Int → Option Bool) (at_ : Int → Bool) (h : Int) : List Int → Bool → Bool
  | [], _ => true
  | x :: l, beh => if u x = some true ∨ (beh = true ∧ u x = none ∧ at_ x = true) then false else radioP u at_ h l (beh || x == h)
def lastA (u : Int → Option Bool) (at_ : Int → Bool) : List Int → Int → Int
  | [], z => z
  | x :: l, z => lastA u at_ l (if at_ x = true ∧ u x = none then x else z)
def radioS (u : Int → Option Bool) (at_ : Int → Bool) (h : Int) (g : List Int) : Bool := decide (∀ x ∈ g, u x ≠ some true) && (lastA u at_ g h == h)
theorem lastA_none {u : Int → Option Bool} {at_ : Int → Bool} {l : List Int} (h : ∀ x ∈ l, ¬ (at_ x = true ∧ u x = none)) (z : Int) : lastA u at_ l z = z := by
  induction l generalizing z with
  | nil => rfl
  | cons x l ih =>
    unfold lastA
    rw [if_neg (h x (by simp))]
    exact ih (fun y hy => h y (by simp [hy])) z
theorem lastA_mem {u : Int → Option Bool} {at_ : Int → Bool} {l : List Int} (h : ∃ x ∈ l, at_ x = true ∧ u x = none) (z : Int) : lastA u at_ l z ∈ l := by
  induction l generalizing z with
  | nil => obtain ⟨x, hx, _⟩ := h; cases hx
  | cons x l ih =>
    unfold lastA
    by_cases e : ∃ y ∈ l, at_ y = true ∧ u y = none
    · exact List.mem_cons_of_mem _ (ih e _)
    · have hx : at_ x = true ∧ u x = none := by
        obtain ⟨y, hy, q⟩ := h
        rcases List.mem_cons.1 hy with rfl | hy
        · exact q
        · exact absurd ⟨y, hy, q⟩ e
      rw [if_pos hx, lastA_none (fun y hy q => e ⟨y, hy, q⟩)]
      simp
theorem lastA_same {u : Int → Option Bool} {at_ : Int → Bool} {l : List Int} (h : ∃ x ∈ l, at_ x = true ∧ u x = none) (z z' : Int) : lastA u at_ l z = lastA u at_ l z' := by
  induction l generalizing z z' with
  | nil => obtain ⟨x, hx, _⟩ := h; cases hx
  | cons x l ih =>
    unfold lastA
    by_cases e : at_ x = true ∧ u x = none
    · rw [if_pos e, if_pos e]
    · rw [if_neg e, if_neg e]
      refine ih ?_ _ _
      obtain ⟨y, hy, q⟩ := h
      rcases List.mem_cons.1 hy with rfl | hy
      · exact absurd q e
      · exact ⟨y, hy, q⟩
theorem radioP_beh (u : Int → Option Bool) (at_ : Int → Bool) (h : Int) (l : List Int) : radioP u at_ h l true = true ↔ ∀ x ∈ l, u x ≠ some true ∧ ¬ (at_ x = true ∧ u x = none) := by
  induction l with
  | nil => simp [radioP]
  | cons x l ih =>
    unfold radioP
    rw [Bool.true_or]
    by_cases e : u x = some true ∨ (true = true ∧ u x = none ∧ at_ x = true)
    · rw [if_pos e]
      constructor
      · intro q; cases q
      · intro q
        obtain ⟨q1, q2⟩ := q x (by simp)
        rcases e with e | ⟨_, e1, e2⟩
        · exact absurd e q1
        · exact absurd ⟨e2, e1⟩ q2
    · rw [if_neg e, ih]
      constructor
      · intro q y hy
        rcases List.mem_cons.1 hy with rfl | hy
        · exact ⟨fun z => e (.inl z), fun z => e (.inr ⟨rfl, z.2, z.1⟩)⟩
        · exact q y hy
      · intro q y hy; exact q y (by simp [hy])
theorem radioP_yes {u : Int → Option Bool} {at_ : Int → Bool} {h : Int} {g : List Int} (hm : h ∈ g) (hnd : g.Nodup) (hu : u h = none) (ha : at_ h = true) : radioP u at_ h g false = true ↔ (∀ x ∈ g, u x ≠ some true) ∧ lastA u at_ g h = h := by
  induction g with
  | nil => cases hm
  | cons x l ih =>
    rw [List.nodup_cons] at hnd
    unfold radioP lastA
    rw [Bool.false_or]
    by_cases ex : x = h
    · subst ex
      have e0 : ¬ (u x = some true ∨ (false = true ∧ u x = none ∧ at_ x = true)) := by rw [hu]; simp
      have e1 : at_ x = true ∧ u x = none := ⟨ha, hu⟩
      rw [if_neg e0, if_pos e1, beq_self_eq_true, radioP_beh]
      constructor
      · intro q
        refine ⟨fun y hy => ?_, lastA_none (fun y hy => (q y hy).2) _⟩
        rcases List.mem_cons.1 hy with rfl | hy
        · rw [hu]; simp
        · exact (q y hy).1
      · rintro ⟨q1, q2⟩ y hy
        refine ⟨q1 y (by simp [hy]), fun q => ?_⟩
        have := lastA_mem ⟨y, hy, q⟩ x
        rw [q2] at this
        exact hnd.1 this
    · have hml : h ∈ l := by
        rcases List.mem_cons.1 hm with e | e
        · exact absurd e.symm ex
        · exact e
      have eb : (x == h) = false := by simpa using ex
      rw [eb]
      by_cases e : u x = some true
      · rw [if_pos (.inl e)]
        constructor
        · intro q; cases q
        · rintro ⟨q, _⟩; exact absurd e (q x (by simp))
      · rw [if_neg (fun q => by rcases q with q | q; exact e q; cases q.1), ih hml hnd.2, lastA_same ⟨h, hml, ha, hu⟩ (if at_ x = true ∧ u x = none then x else h) h]
        constructor
        · rintro ⟨q1, q2⟩
          refine ⟨fun y hy => ?_, q2⟩
          rcases List.mem_cons.1 hy with rfl | hy
          · exact e
          · exact q1 y hy
        · rintro ⟨q1, q2⟩; exact ⟨fun y hy => q1 y (by simp [hy]), q2⟩
theorem radio_same {u : Int → Option Bool} {at_ : Int → Bool} {h : Int} {g : List Int} (hm : h ∈ g) (hnd : g.Nodup) (hu : u h = none) (ha : at_ h = true) : radioP u at_ h g false = radioS u at_ h g := by
  have := radioP_yes (at_ := at_) hm hnd hu ha
  unfold radioS
  rw [Bool.eq_iff_iff, this]
  simp
def chkd (G : Int → List Int) (rd at_ : Int → Bool) (u : Int → Option Bool) (h : Int) : Bool :=
  match u h with
  | some b => b
  | none => if rd h = true ∧ at_ h = true then radioS u at_ h (G h) else at_ h
structure GrOk (G : Int → List Int) (rd : Int → Bool) : Prop where
  self : ∀ h, rd h = true → h ∈ G h
  nd : ∀ h, (G h).Nodup
  eq : ∀ a b, rd a = true → b ∈ G a → G b = G a
  rd : ∀ a b, rd a = true → b ∈ G a → rd b = true
def OneT (G : Int → List Int) (rd : Int → Bool) (u : Int → Option Bool) : Prop := ∀ a b, rd a = true → b ∈ G a → a ≠ b → ¬ (u a = some true ∧ u b = some true)
theorem OneT.set {G : Int → List Int} {rd : Int → Bool} {u : Int → Option Bool} (hG : GrOk G rd) (h : OneT G rd u) (x : Int) (on : Bool) : OneT G rd (setU G rd u x on) := by
  intro a b ha hb hab ⟨h1, h2⟩
  have hrb := hG.rd a b ha hb
  have heb := hG.eq a b ha hb
  have hab' : a ∈ G b := heb ▸ hG.self a ha
  unfold setU at h1 h2
  by_cases ea : a = x
  · subst ea
    rw [if_pos rfl] at h1
    rw [if_neg (fun e => hab e.symm), if_pos ⟨ha, by simpa using h1, hb⟩] at h2
    cases h2
  · by_cases eb : b = x
    · subst eb
      rw [if_pos rfl] at h2
      rw [if_neg ea, if_pos ⟨hrb, by simpa using h2, hab'⟩] at h1
      cases h1
    · rw [if_neg ea] at h1
      rw [if_neg eb] at h2
      split at h1
      · cases h1
      · split at h2
        · cases h2
        · exact h a b ha hb hab ⟨h1, h2⟩
end Go.Proofs.YtacdbnhnhdlmpaaGreatDoor.W
end
section
namespace Go.Proofs.YtacdbnhnhdlmpaaGreatDoor.W
open Go.RowKit
def fxO (x : FX) : List Ob := [ro 126 5 x.uv x.t.undo.length (rows encE x.t.undo), ro 126 5 x.rv x.t.redo.length (rows encE x.t.redo)]
end Go.Proofs.YtacdbnhnhdlmpaaGreatDoor.W
end
section
namespace Go.Proofs.YtacdbnhnhdlmpaaGreatDoor.W
open Go.RowKit
theorem up_len (X : List FX) (hd : Int) (x : FX) : X.length ≤ (upX X hd x).length ∧ (upX X hd x).length ≤ X.length + 1 ∧ idxX X hd < (upX X hd x).length := by
  unfold upX idxX
  cases h : fixX X hd with
  | none => simp
  | some i => have := (fix_some h).1; simp; omega
theorem up_before (X : List FX) (hd : Int) (x : FX) {j : Nat} (hj : j < idxX X hd) : (upX X hd x)[j]? = X[j]? := by
  unfold upX idxX at *
  cases h : fixX X hd with
  | none => rw [h] at hj; simp at hj ⊢; rw [List.getElem?_append_left hj]
  | some i => rw [h] at hj; simp at hj ⊢; rw [List.getElem?_set_ne (by omega)]
theorem up_fix (X : List FX) {hd : Int} {x : FX} (hx : x.node = hd) : fixX (upX X hd x) hd = some (idxX X hd) := by
  refine fix_of (up_at X hd x) hx fun j y hj hy => ?_
  rw [up_before X hd x hj] at hy
  cases h : fixX X hd with
  | none => exact (fix_none h).1 y (List.mem_of_getElem? hy)
  | some i => unfold idxX at hj; rw [h] at hj; exact (fix_some h).2.2.2 j y hj hy
theorem up_get (X : List FX) {hd : Int} {x : FX} (hx : x.node = hd) : getX (upX X hd x) hd = x := by
  have h := (fix_some (up_fix X hx)).2.1
  rw [up_at] at h
  exact (Option.some.inj h).symm
theorem up_mem {X : List FX} {hd : Int} {x y : FX} (h : y ∈ upX X hd x) : y = x ∨ y ∈ X := by
  unfold upX at h
  split at h
  · exact (List.mem_or_eq_of_mem_set h).symm
  · simp at h; exact h.symm
theorem get_other (X : List FX) {hd hd' : Int} {x : FX} (hx : x.node = hd) (hne : hd' ≠ hd) : getX (upX X hd x) hd' = getX X hd' := by
  cases h : fixX X hd' with
  | none =>
    obtain ⟨h1, h2⟩ := fix_none h
    cases h' : fixX (upX X hd x) hd' with
    | none => rw [h2, (fix_none h').2]
    | some i =>
      obtain ⟨_, e1, e2, _⟩ := fix_some h'
      rcases up_mem (List.mem_of_getElem? e1) with e | e
      · rw [e, hx] at e2; exact absurd e2.symm hne
      · exact absurd e2 (h1 _ e)
  | some i =>
    obtain ⟨h1, h2, h3, h4⟩ := fix_some h
    have hii : i ≠ idxX X hd := fun e => by
      cases h' : fixX X hd with
      | none => unfold idxX at e; rw [h'] at e; simp at e; omega
      | some k =>
        unfold idxX at e; rw [h'] at e; simp at e; subst e
        obtain ⟨_, g1, g2, _⟩ := fix_some h'
        rw [h2] at g1
        rw [← Option.some.inj g1] at g2
        exact hne (h3.symm.trans g2)
    have e1 : ∀ j, j ≠ idxX X hd → j < X.length → (upX X hd x)[j]? = X[j]? := fun j hj hl => by
      unfold upX
      cases h' : fixX X hd with
      | none => exact List.getElem?_append_left hl
      | some k => unfold idxX at hj; rw [h'] at hj; simp at hj; exact List.getElem?_set_ne (by omega)
    have e2 : fixX (upX X hd x) hd' = some i := by
      refine fix_of ((e1 i hii h1).trans h2) h3 fun j y hj hy => ?_
      by_cases hjj : j = idxX X hd
      · subst hjj
        rw [up_at] at hy
        rw [← Option.some.inj hy, hx]
        exact fun e => hne e.symm
      · rw [e1 j hjj (by omega)] at hy
        exact h4 j y hj hy
    have := (fix_some e2).2.1
    rw [e1 i hii h1, h2] at this
    exact (Option.some.inj this).symm
end Go.Proofs.YtacdbnhnhdlmpaaGreatDoor.W
end
