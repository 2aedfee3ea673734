/- Texts joined: InsG Named Rsz. -/
import Derived.Test.YtacdbnhnhdlmpaaGreatDoorFB9
import Derived.Test.YtacdbnhnhdlmpaaGreatDoorFB2
import Derived.LoopTactic
set_option maxRecDepth 100000
set_option maxHeartbeats 40000000
set_option linter.unusedVariables false
set_option linter.unusedSimpArgs false
section
namespace Go.Proofs.YtacdbnhnhdlmpaaGreatDoor.W
open Go.RowKit
def Place (K : Nat → List Nat) (p : Nat) (o : Option Nat) (j : Nat) : Prop := (o = none ∧ j = (K p).length) ∨ (∃ b, o = some b ∧ (K p)[j]? = some b)
theorem Place.le {K : Nat → List Nat} {p : Nat} {o : Option Nat} {j : Nat} (h : Place K p o j) : j ≤ (K p).length := by
  rcases h with ⟨_, e⟩ | ⟨b, _, e⟩
  · omega
  · have := (List.getElem?_eq_some_iff.1 e).1; omega
theorem place_of {K : Nat → List Nat} {p : Nat} {o : Option Nat} (h : ∀ b, o = some b → b ∈ K p) : ∃ j, Place K p o j := by
  cases o with
  | none => exact ⟨_, .inl ⟨rfl, rfl⟩⟩
  | some b =>
    obtain ⟨j, hj⟩ := List.mem_iff_getElem?.1 (h b rfl)
    exact ⟨j, .inr ⟨b, rfl, hj⟩⟩
theorem link_any {B R g cap : Nat} {S : Tr} {fv : Value} {w : World} {K : Nat → List Nat} {d d' : Nat → Nat} (h : TAt B R S (.slice (some ⟨g, 0, none⟩) S.slots.length cap) fv w) (hL : Lk S K d) (p c j : Nat) (o : Option Nat) (np nc : Nd) (hp : S.at p = some np) (hc : S.at c = some nc) (ho : Place K p o j) (hpc : p ≠ c)
    (hdet : ∀ q, c ∉ K q) (hL' : ∀ S', Linked S S' (K p) p j c → Lk S' (linkK K p j c) d') :
    Calls Tryz.prog 115 #[.pointer (some ⟨R, 0, none⟩), .int .i64 (S.hd p), .int .i64 (S.hd c), .int .i64 (hO S o)] w fun e w' => ∃ S', Linked S S' (K p) p j c ∧ e = .returned (.agg (recC 1 (S.hd p) (S.hd c) (hO S (pv (K p) j)) (hO S o) j [] [] false 0 0).toArray) ∧
      TAt B R S' (.slice (some ⟨g, 0, none⟩) S'.slots.length cap) fv w' ∧ Chg (fun k => k = g) w w' := by
  rcases ho with ⟨rfl, rfl⟩ | ⟨b, rfl, hj⟩
  · refine (link_end h hL p c np nc hp hc hpc hdet hL').mono ?_
    rintro e w' ⟨S', h1, rfl, h3⟩
    exact ⟨S', h1, by rw [(hL.node p np hp).2, pv_last]; rfl, h3⟩
  · obtain ⟨nb, hb⟩ := hL.some hj
    refine (link_mid h hL p c j b np nc nb hp hc hb hj hpc hdet hL').mono ?_
    rintro e w' ⟨S', h1, rfl, h3⟩
    exact ⟨S', h1, by rw [(hL.kid p j b nb hj hb).2.1]; rfl, h3⟩
theorem may_not {S : Tr} {K : Nat → List Nat} {d : Nat → Nat} {p c : Nat} {np nc : Nd} (h : mayB S K d p c np nc = true) : subB S d c p = false ∧ nc.kind ≠ 1 := by
  unfold mayB at h
  split at h
  · cases h
  · rename_i e
    simp only [Bool.or_eq_true, beq_iff_eq, not_or] at e
    refine ⟨?_, e.1⟩
    have := e.2
    unfold subB
    cases e2 : contB S c (d p) (some p) with
    | false => rfl
    | true => exact absurd e2 this
inductive InsOut (S : Tr) (K : Nat → List Nat) (c p : Nat) (o : Option Nat) (nc : Nd) (S' : Tr) (K' : Nat → List Nat) (l : List (List Value)) : Prop
  | det (j : Nat) (h1 : ∀ q, c ∉ K q) (h2 : Place K p o j) (h3 : Linked S S' (K p) p j c) (h4 : K' = linkK K p j c) (h5 : l = [recC 1 (S.hd p) (S.hd c) (hO S (pv (K p) j)) (hO S o) j [] [] false 0 0])
  | att (q i j : Nat) (S1 : Tr) (o' : Option Nat) (h1 : (K q)[i]? = some c) (h2 : Cutd S S1 (K q) q i c) (h3 : o' = if o = some c then (K q)[i + 1]? else o) (h4 : Place (cutK K q i) p o' j) (h5 : Linked S1 S' (cutK K q i p) p j c) (h6 : K' = linkK (cutK K q i) p j c)
    (h7 : l = [recC 2 (S.hd q) (S.hd c) nc.prev nc.next i [] [] false 0 0, recC 1 (S.hd p) (S.hd c) (hO S (pv (cutK K q i p) j)) (hO S o') j [] [] false 0 0])
theorem hO_cut {S S' : Tr} {l : List Nat} {p j c : Nat} (h : Cutd S S' l p j c) (o : Option Nat) : hO S' o = hO S o := by cases o with | none => rfl | some x => exact h.hd x
theorem rec_one (a b c d e f : Int) (x : Bool) (y z : Int) : ∀ u ∈ [Value.int .i64 a, .int .i64 b, .int .i64 c, .int .i64 d, .int .i64 e, .int .i64 f, .string ⟨#[]⟩, .string ⟨#[]⟩, .bool x, .int .i64 y, .int .i64 z], u.oneCell' = true := by
  intro u hu; simp only [List.mem_cons, List.not_mem_nil, or_false] at hu; rcases hu with rfl | rfl | rfl | rfl | rfl | rfl | rfl | rfl | rfl | rfl | rfl <;> rfl
theorem TAt.grown_other {B R g cap : Nat} {S : Tr} {n : Nat} {fv v : Value} {w w' : World} {xs : List Value} (h : TAt B R S (.slice (some ⟨g, 0, none⟩) n cap) fv w) (k : Chg (fun k => v.ownBlock = some k) w w') {B' : Nat} (_hv : ∀ k, v.ownBlock = some k → B' ≤ k ∧ k ≠ g) {m : Nat} (ho : w.ownsRow B' 152 11 v m xs) : TAt B R S (.slice (some ⟨g, 0, none⟩) n cap) fv w' := by
  have other : ∀ {k : Nat} {cs : Array Value} {t : TypeId}, w.heap[k]? = some (.cells cs t (0, 0)) → 152 ≠ t → w'.heap[k]? = w.heap[k]? := fun {k' cs t} hk ht => k.block _ (lt_of_block hk) (fun e => by
    obtain ⟨cur, hc⟩ := own_ty ho e
    rw [hk] at hc
    cases hc
    exact ht rfl)
  have keep : ∀ {e sz n : Nat} {v : Value} {xs : List Value}, 152 ≠ e → w.ownsRow B e sz v n xs → w'.ownsRow B e sz v n xs := fun ht ⟨h1, h2⟩ =>
    ⟨h1, h2.imp id fun ⟨g', cap', cur', e1, e2, e3, rest⟩ => ⟨g', cap', cur', e1, e2, (other e3 ht).trans e3, rest⟩⟩
  refine ⟨h.blk.kept (other h.blk (by decide)), keep (by decide) h.slots, keep (by decide) h.free, fun i n hi => ?_, h.base, h.few⟩
  obtain ⟨a, cap, e, h'⟩ := h.attrs i n hi
  refine ⟨a, cap, e, h'.imp id ?_⟩
  rintro ⟨g, cur, e, hB, hg, hc⟩
  exact ⟨g, cur, e, hB, (other hg (by decide)).trans hg, hc⟩
set_option maxRecDepth 100000 in
set_option maxHeartbeats 16000000 in
theorem insert_ok {B R g cap : Nat} {S : Tr} {fv : Value} {w : World} {K : Nat → List Nat} {d : Nat → Nat} (h : TAt B R S (.slice (some ⟨g, 0, none⟩) S.slots.length cap) fv w) (hL : Lk S K d) (p c : Nat) (o : Option Nat) (np nc : Nd) (hp : S.at p = some np) (hc : S.at c = some nc) (ho : ∀ b, o = some b → b ∈ K p)
    (hmay : mayB S K d p c np nc = true) (hdep : d p + hgt K (128 - d c) c ≤ 128) :
    Calls Tryz.prog 57 #[.pointer (some ⟨R, 0, none⟩), .int .i64 (S.hd p), .int .i64 (S.hd c), .int .i64 (hO S o)] w fun e w' => ∃ S' K' v l, InsOut S K c p o nc S' K' l ∧ Lk S' K' (dIns S d p c) ∧ e = .returned (.tuple #[v, .int .i64 0]) ∧
      RcAt w' w.heap.size v l ∧ TAt B R S' (.slice (some ⟨g, 0, none⟩) S'.slots.length cap) fv w' ∧ Chg (fun k => k = g) w w' := by
  have HP := Lib.hid (fun wx (hb : Below w.heap.size w wx) => at_some (h.below hb) (S.hd p) (hd_ok hL hp).1 (hd_ix hL hp))
  have HC := Lib.hid (fun wx (hb : Below w.heap.size w wx) => at_some (h.below hb) (S.hd c) (hd_ok hL hc).1 (hd_ix hL hc))
  have HM := Lib.hid (fun wx (hb : Below w.heap.size w wx) => may_any (h.below hb) hL p c np nc hp hc)
  rw [hmay] at HM
  have HD := Lib.hid (fun wx (hb : Below w.heap.size w wx) => depth_any (h.below hb) hL p np hp)
  have HH := Lib.hid (fun wx (hb : Below w.heap.size w wx) => height_any hL (128 - d c) c nc hc rfl wx (h.below hb))
  have H4 := Lib.hid (fun wx (hb : Below w.heap.size w wx) => nd_cell (h.below hb) hc 4 (by omega))
  have H8 := Lib.hid (fun wx (hb : Below w.heap.size w wx) => nd_cell (h.below hb) hc 8 (by omega))
  have hnot := (may_not hmay).1
  have hcs : (S.at c).isSome = true := by rw [hc]; rfl
  have hpc : p ≠ c := fun e => by subst e; rw [sub_self hL hcs] at hnot; cases hnot
  have hc0 : ¬ S.hd c = 0 := by have := (hd_ok hL hc).2; omega
  have hc1 : (S.hd c == 0) = false := by simpa using hc0
  have hc2 : ((0 : Int) == S.hd c) = false := by simpa using fun e => hc0 e.symm
  have hhc := hgt_le K (128 - d c) c
  have hlow := hL.low p
  have HT := Lib.hid h
  have HL := Lib.hid hL
  have Hp := Lib.hid hp
  have Hc := Lib.hid hc
  have Ho := Lib.hid ho
  have HdG := Lib.hid hdep
  clear h hL hp hc hmay ho
  generalize hgE : hgt K (128 - d c) c = hc1' at *
  have d5 : decide ((128 : Int) < (d p : Int) + (hc1' : Int)) = false := by simp; omega
  rcases o with _ | b
  case' none =>
    rw [show hO S none = 0 from rfl]
    go_enter Tryz.func57, Tryz.ntmps57
    go_wp2_with fail
    refine (HP.out _ (Below.refl _ _)).mono ?_
    rintro e w1 ⟨rfl, hb1⟩
    go_wp2_with fail
    refine (HC.out _ hb1).mono ?_
    rintro e w2 ⟨rfl, hb2⟩
    have hB2 := bthen hb1 hb2
    go_wp2_with fail
    refine (HM.out _ hB2).mono ?_
    rintro e w3 ⟨rfl, hb3⟩
    have hB3 := bthen hB2 hb3
    go_wp2_with fail
    refine (HD.out _ hB3).mono ?_
    rintro e w4 ⟨rfl, hb4⟩
    have hB4 := bthen hB3 hb4
    go_wp2_with fail
    refine (HH.out _ hB4).mono ?_
    rintro e wA ⟨rfl, hb5⟩
    have HW := Lib.hid (bthen hB4 hb5)
    clear hb1 hb2 hb3 hb4 hb5 hB2 hB3 hB4
    go_upto_region 10 with fail
    obtain ⟨o', ho'⟩ : ∃ o' : Option Nat, o' = none := ⟨none, rfl⟩
    have HO1 := Lib.hid (show ∀ q i, (K q)[i]? = some c → o' = if (none : Option Nat) = some c then (K q)[i + 1]? else none from fun q i _ => by rw [ho']; simp)
    have HO3 := Lib.hid (show (∀ q, c ∉ K q) → o' = none from fun _ => ho')
    have hx3 : hO S o' = 0 := by rw [ho']; rfl
    have HOK := Lib.hid (show ∀ b, o' = some b → b ∈ K p ∧ b ≠ c from fun b e => by rw [ho'] at e; cases e)
    clear ho'
  case' some =>
    have hbm := Ho.out b rfl
    obtain ⟨nb, hb⟩ := Option.isSome_iff_exists.1 (HL.out.kin p b hbm).2
    obtain ⟨jb, hjb⟩ := List.mem_iff_getElem?.1 hbm
    have hbp : nb.parent = S.hd p := (HL.out.kid p jb b nb hjb hb).1
    have HB := Lib.hid (fun wx (hb' : Below w.heap.size w wx) => at_some (HT.out.below hb') (S.hd b) (hd_ok HL.out hb).1 (hd_ix HL.out hb))
    have HB4 := Lib.hid (fun wx (hb' : Below w.heap.size w wx) => nd_cell (HT.out.below hb') hb 4 (by omega))
    simp only [ndC, hbp] at HB4
    have hb0 : ¬ S.hd b = 0 := by have := (hd_ok HL.out hb).2; omega
    have hb1' : (S.hd b == 0) = false := by simpa using hb0
    have Hb := Lib.hid hb
    have Hjb := Lib.hid hjb
    have Hbm := Lib.hid hbm
    rw [show hO S (some b) = S.hd b from rfl]
    clear hb hbp hjb hbm
    by_cases hbc : b = c
    case' pos =>
      obtain rfl : c = b := hbc.symm
      go_enter Tryz.func57, Tryz.ntmps57
      go_wp2_with fail
      refine (HP.out _ (Below.refl _ _)).mono ?_
      rintro e w1 ⟨rfl, hb1⟩
      go_wp2_with fail
      refine (HC.out _ hb1).mono ?_
      rintro e w2 ⟨rfl, hb2⟩
      have hB2 := bthen hb1 hb2
      go_wp2_with fail
      refine (HB.out _ hB2).mono ?_
      rintro e w2' ⟨rfl, hb2'⟩
      have hB2' := bthen hB2 hb2'
      go_wp2_with fail
      refine (HM.out _ hB2').mono ?_
      rintro e w3 ⟨rfl, hb3⟩
      have hB3 := bthen hB2' hb3
      go_wp2_with fail
      refine (HB.out _ hB3).mono ?_
      rintro e w3' ⟨rfl, hb3'⟩
      have hB3' := bthen hB3 hb3'
      have cb4 := HB4.out _ hB3'
      simp only [ndC, List.getElem?_cons_succ, List.getElem?_cons_zero] at cb4
      go_wp2_with fail
      clear cb4
      refine (HD.out _ hB3').mono ?_
      rintro e w4 ⟨rfl, hb4⟩
      have hB4 := bthen hB3' hb4
      go_wp2_with fail
      refine (HH.out _ hB4).mono ?_
      rintro e w5 ⟨rfl, hb5⟩
      have hB5 := bthen hB4 hb5
      go_wp2_with fail
      refine (HC.out _ hB5).mono ?_
      rintro e wA ⟨rfl, hb6⟩
      have HW := Lib.hid (bthen hB5 hb6)
      clear hb1 hb2 hb2' hb3 hb3' hb4 hb5 hb6 hB2 hB2' hB3 hB3' hB4 hB5
      have c8 := H8.out _ HW.out
      simp only [ndC, List.getElem?_cons_succ, List.getElem?_cons_zero] at c8
      go_upto_region 10 with fail
      clear c8
      have hnx := (HL.out.kid p jb c nc Hjb.out Hc.out).2.2
      obtain ⟨o', ho'⟩ : ∃ o' : Option Nat, o' = (K p)[jb + 1]? := ⟨_, rfl⟩
      have HO1 := Lib.hid (show ∀ q i, (K q)[i]? = some c → o' = if (some c : Option Nat) = some c then (K q)[i + 1]? else some c from fun q i hq => by
        have e := HL.out.one_par (List.mem_of_getElem? hq) (List.mem_of_getElem? Hjb.out)
        subst e
        rw [if_pos rfl, ho', HL.out.inj hq Hjb.out])
      have HO3 := Lib.hid (show (∀ q, c ∉ K q) → o' = some c from fun hh => absurd Hbm.out (hh p))
      have hx3 : hO S o' = nc.next := by rw [ho', hnx]
      have HOK := Lib.hid (show ∀ b', o' = some b' → b' ∈ K p ∧ b' ≠ c from fun b' e => by
        rw [ho'] at e
        exact ⟨List.mem_of_getElem? e, fun e2 => by have := HL.out.inj (e2 ▸ e) Hjb.out; omega⟩)
      clear ho' hnx
    case' neg =>
      have hbc1 : ¬ S.hd b = S.hd c := fun e => by
        have l1 := at_lt Hb.out
        have l2 := at_lt Hc.out
        have := HL.out.few
        exact hbc (hdl_inj (by omega) (by omega) e)
      have hbc2 : (S.hd b == S.hd c) = false := by simpa using hbc1
      go_enter Tryz.func57, Tryz.ntmps57
      go_wp2_with fail
      refine (HP.out _ (Below.refl _ _)).mono ?_
      rintro e w1 ⟨rfl, hb1⟩
      go_wp2_with fail
      refine (HC.out _ hb1).mono ?_
      rintro e w2 ⟨rfl, hb2⟩
      have hB2 := bthen hb1 hb2
      go_wp2_with fail
      refine (HB.out _ hB2).mono ?_
      rintro e w2' ⟨rfl, hb2'⟩
      have hB2' := bthen hB2 hb2'
      go_wp2_with fail
      refine (HM.out _ hB2').mono ?_
      rintro e w3 ⟨rfl, hb3⟩
      have hB3 := bthen hB2' hb3
      go_wp2_with fail
      refine (HB.out _ hB3).mono ?_
      rintro e w3' ⟨rfl, hb3'⟩
      have hB3' := bthen hB3 hb3'
      have cb4 := HB4.out _ hB3'
      simp only [ndC, List.getElem?_cons_succ, List.getElem?_cons_zero] at cb4
      go_wp2_with fail
      clear cb4
      refine (HD.out _ hB3').mono ?_
      rintro e w4 ⟨rfl, hb4⟩
      have hB4 := bthen hB3' hb4
      go_wp2_with fail
      refine (HH.out _ hB4).mono ?_
      rintro e wA ⟨rfl, hb5⟩
      have HW := Lib.hid (bthen hB4 hb5)
      clear hb1 hb2 hb2' hb3 hb3' hb4 hb5 hB2 hB2' hB3 hB3' hB4
      go_upto_region 10 with fail
      obtain ⟨o', ho'⟩ : ∃ o' : Option Nat, o' = some b := ⟨_, rfl⟩
      have HO1 := Lib.hid (show ∀ q i, (K q)[i]? = some c → o' = if (some b : Option Nat) = some c then (K q)[i + 1]? else some b from fun q i _ => by rw [if_neg (fun e => hbc (Option.some.inj e)), ho'])
      have HO3 := Lib.hid (show (∀ q, c ∉ K q) → o' = some b from fun _ => ho')
      have hx3 : hO S o' = S.hd b := by rw [ho']; rfl
      have HOK := Lib.hid (show ∀ b', o' = some b' → b' ∈ K p ∧ b' ≠ c from fun b' e => by rw [ho'] at e; cases e; exact ⟨Hbm.out, hbc⟩)
      clear ho'
  all_goals
    clear HP HM HD HH H8
    have hgtl := HdG.out
    by_cases hdt : ∃ q, c ∈ K q
    case' pos =>
      obtain ⟨q, hq⟩ := hdt
      obtain ⟨i, hi⟩ := List.mem_iff_getElem?.1 hq
      obtain ⟨nq, hnq⟩ := Option.isSome_iff_exists.1 (HL.out.kin q c hq).1
      have hpar : nc.parent = S.hd q := (HL.out.kid q i c nc hi Hc.out).1
      have hq0 : ¬ S.hd q = 0 := by have := (hd_ok HL.out hnq).2; omega
      have hq1 : (S.hd q == 0) = false := by simpa using hq0
      have HU := Lib.hid (fun wx (hb : Below w.heap.size w wx) => unlink_any (HT.out.below hb) HL.out q i c nc hi Hc.out)
      have Hi := Lib.hid hi
      clear hq hnq hi
      go_wp2_with fail
      refine (HC.out _ HW.out).mono ?_
      rintro e w6 ⟨rfl, hb6⟩
      have hB6 := bthen HW.out hb6
      have c4 := H4.out _ hB6
      simp only [ndC, List.getElem?_cons_succ, List.getElem?_cons_zero, hpar] at c4
      go_wp2_with fail
      clear c4
      refine (HU.out _ hB6).mono ?_
      rintro e w7 ⟨S1, hcut, rfl, hT7, hC7⟩
      have HT7 := Lib.hid hT7
      have HC7 := Lib.hid hC7
      have HB6 := Lib.hid hB6
      have hs7 := Nat.le_trans hB6.size hC7.size
      clear hT7 hC7 hb6 hB6 HU
      simp only [recC, strV]
      have HS := Lib.hid (own_at (n := 1) (size := 11) (Blk.new w7 [.int .i64 2, .int .i64 (S.hd q), .int .i64 (S.hd c), .int .i64 nc.prev, .int .i64 nc.next, .int .i64 (i : Int), .string ⟨#[]⟩, .string ⟨#[]⟩, .bool false, .int .i64 0, .int .i64 0] 152) rfl (by omega))
      have hs8 : w.heap.size ≤ (w7.alloc (.cells #[.int .i64 2, .int .i64 (S.hd q), .int .i64 (S.hd c), .int .i64 nc.prev, .int .i64 nc.next, .int .i64 (i : Int), .string ⟨#[]⟩, .string ⟨#[]⟩, .bool false, .int .i64 0, .int .i64 0] 152)).heap.size := by simp; omega
      go_wp2_with (at_builtin; refine wpList_append_B etR (World.ownsRow_nil _ w.heap.size _ _) hs8 HS.out (rec_one _ _ _ _ _ _ _ _ _) (by omega) (by omega) rfl _ _ rfl rfl rfl ?_)
      intro v1 w8 ho hgr _
      have h8 : Below w7.heap.size w7 w8 := ((Below.refl _ w7).alloc (Nat.le_refl _) _).grown hgr (by simp) (fun k e => by cases e)
      have HO := Lib.hid ho
      have H8 := Lib.hid h8
      have hs9 := Nat.le_trans hs7 h8.size
      clear ho hgr h8 HS hs8
      have hL1 := HL.out.cut' Hi.out hcut
      obtain ⟨np1, hp1⟩ : ∃ n, S1.at p = some n := by rw [hcut.at_, Hp.out]; exact ⟨_, rfl⟩
      obtain ⟨nc1, hc1'⟩ : ∃ n, S1.at c = some n := by rw [hcut.at_, Hc.out]; exact ⟨_, rfl⟩
      have hmem : ∀ b, o' = some b → b ∈ cutK K q i p := fun b e => by
        obtain ⟨h1, h2⟩ := HOK.out b e
        exact (cut_mem HL.out Hi.out p b).2 ⟨h1, h2⟩
      obtain ⟨j, hpl⟩ := place_of hmem
      have HK1 := Lib.hid (fun wx (hb : Below w7.heap.size w7 wx) => link_any (HT7.out.below hb) hL1 p c j o' np1 nc1 hp1 hc1' hpl hpc (fun q' hq' => ((cut_mem HL.out Hi.out q' c).1 hq').2 rfl)
        (fun S' hl => HL.out.cutLink Hi.out hcut (by rw [Hp.out]; rfl) hpl.le hnot (by rw [hgE]; exact hgtl) hl))
      rw [hcut.hd, hcut.hd, hO_cut hcut, hO_cut hcut, hx3] at HK1
      have HL2 := Lib.hid (fun S' hl => HL.out.cutLink (S2 := S') Hi.out hcut (by rw [Hp.out]; rfl) hpl.le hnot (by rw [hgE]; exact hgtl) hl)
      have Hpl := Lib.hid hpl
      have Hcut := Lib.hid hcut
      clear hL1 hp1 hc1' hmem hpl hcut
      go_wp2_with fail
      refine (HK1.out _ H8.out).mono ?_
      rintro e w9 ⟨S', hlk, rfl, hT9, hC9⟩
      have HT9 := Lib.hid hT9
      have HC9 := Lib.hid hC9
      have hs10 := Nat.le_trans hs9 hC9.size
      have hnv : v1.ownBlock ≠ some g := fun e => by
        have e1 := (HO.out.lt g e).1
        have e2 := (HT.out.slots.lt g rfl).2
        omega
      have HO9 := Lib.hid (own_kB HO.out (fun g' hg' => hC9.block g' (HO.out.lt g' hg').2 (fun e => hnv (e ▸ hg'))))
      have hv1 := fun k (hk : v1.ownBlock = some k) => (HO.out.lt k hk).1
      clear hT9 hC9 HK1 HO
      have HS := Lib.hid (own_at (n := 1) (size := 11) (Blk.new w9 [.int .i64 1, .int .i64 (S.hd p), .int .i64 (S.hd c), .int .i64 (hO S (pv (cutK K q i p) j)), .int .i64 (hO S o'), .int .i64 (j : Int), .string ⟨#[]⟩, .string ⟨#[]⟩, .bool false, .int .i64 0, .int .i64 0] 152) rfl (by omega))
      rw [hx3] at HS
      have hs11 : w.heap.size ≤ (w9.alloc (.cells #[.int .i64 1, .int .i64 (S.hd p), .int .i64 (S.hd c), .int .i64 (hO S (pv (cutK K q i p) j)), .int .i64 (hO S o'), .int .i64 (j : Int), .string ⟨#[]⟩, .string ⟨#[]⟩, .bool false, .int .i64 0, .int .i64 0] 152)).heap.size := by simp; omega
      rw [hx3] at hs11
      generalize hpvE : hO S (pv (cutK K q i p) j) = pvx at *
      simp only [recC, strV]
      go_wp2_with (at_builtin; refine wpList_append_B etR (HO9.out.alloc _) hs11 HS.out (rec_one _ _ _ _ _ _ _ _ _) (by omega) (by omega) rfl _ _ rfl rfl rfl ?_)
      intro v' w10 ho hgr _
      have h10 : Below w.heap.size w9 w10 := ((Below.refl _ w9).alloc (by omega) _).grown hgr hs11 hv1
      have HO10 := Lib.hid ho
      have hC10 : Chg (fun k => v1.ownBlock = some k) w9 w10 := ((Chg.refl _ w9).alloc _).grown hgr (fun k e _ => e)
      have HC10 := Lib.hid hC10
      have H10 := Lib.hid h10
      clear ho hgr h10 HS hs11 hC10
      go_wp2_with fail
      go_ret2
      refine ⟨S', linkK (cutK K q i) p j c, v', _, .att q i j S1 o' Hi.out Hcut.out (by simpa using HO1.out q i Hi.out) Hpl.out hlk rfl rfl, HL2.out S' hlk, rfl, ?_, ?_, ?_⟩
      · rw [hpvE, hx3]
        simpa [RcAt, recC, strV] using HO10.out
      · exact HT9.out.grown_other HC10.out (fun k hk => ⟨hv1 k hk, fun e => hnv (e ▸ hk)⟩) HO9.out
      · have e7 : Chg (fun k => k = g) w w7 := (Chg.of_below HB6.out).trans HC7.out (fun _ _ h => h)
        have e8 : Chg (fun k => k = g) w w8 := e7.trans (Chg.of_below (F := fun k => k = g) H8.out) (fun _ _ h => h)
        have e9 : Chg (fun k => k = g) w w9 := e8.trans HC9.out (fun _ _ h => h)
        exact e9.trans HC10.out (fun i hi e => by have := hv1 i e; omega)
    case' neg =>
      have hdet : ∀ q, c ∉ K q := fun q hq => hdt ⟨q, hq⟩
      have hpar : nc.parent = 0 := (HL.out.top c nc Hc.out hdet).1
      have hoo := HO3.out hdet
      subst hoo
      obtain ⟨j, hpl⟩ := place_of Ho.out
      have HK1 := Lib.hid (fun wx (hb : Below w.heap.size w wx) => link_any (HT.out.below hb) HL.out p c j _ np nc Hp.out Hc.out hpl hpc hdet
        (fun S' hl => HL.out.hang' (by rw [Hp.out]; rfl) hcs hdet hpl.le hnot (by rw [hgE]; exact hgtl) hl))
      rw [hx3] at HK1
      have HL2 := Lib.hid (fun S' hl => HL.out.hang' (S2 := S') (by rw [Hp.out]; rfl) hcs hdet hpl.le hnot (by rw [hgE]; exact hgtl) hl)
      have Hpl := Lib.hid hpl
      have Hdet := Lib.hid hdet
      clear hpl hdt hdet
      go_wp2_with fail
      refine (HC.out _ HW.out).mono ?_
      rintro e w6 ⟨rfl, hb6⟩
      have hB6 := bthen HW.out hb6
      have c4 := H4.out _ hB6
      simp only [ndC, List.getElem?_cons_succ, List.getElem?_cons_zero, hpar] at c4
      go_wp2_with fail
      clear c4
      refine (HK1.out _ hB6).mono ?_
      rintro e w9 ⟨S', hlk, rfl, hT9, hC9⟩
      have HT9 := Lib.hid hT9
      have HC9 := Lib.hid hC9
      have HB6 := Lib.hid hB6
      have hs10 := Nat.le_trans hB6.size hC9.size
      clear hT9 hC9 HK1 hb6 hB6
      have HS := Lib.hid (fun x3 => own_at (n := 1) (size := 11) (Blk.new w9 [.int .i64 1, .int .i64 (S.hd p), .int .i64 (S.hd c), .int .i64 (hO S (pv (K p) j)), .int .i64 x3, .int .i64 (j : Int), .string ⟨#[]⟩, .string ⟨#[]⟩, .bool false, .int .i64 0, .int .i64 0] 152) rfl (by omega))
      have hs11 : ∀ x3 : Int, w.heap.size ≤ (w9.alloc (.cells #[.int .i64 1, .int .i64 (S.hd p), .int .i64 (S.hd c), .int .i64 (hO S (pv (K p) j)), .int .i64 x3, .int .i64 (j : Int), .string ⟨#[]⟩, .string ⟨#[]⟩, .bool false, .int .i64 0, .int .i64 0] 152)).heap.size := fun x3 => by simp; omega
      generalize hpvE : hO S (pv (K p) j) = pvx at *
      simp only [recC, strV]
      go_wp2_with (at_builtin; refine wpList_append_B etR (World.ownsRow_nil _ w.heap.size _ _) (hs11 _) (HS.out _) (rec_one _ _ _ _ _ _ _ _ _) (by omega) (by omega) rfl _ _ rfl rfl rfl ?_)
      intro v' w10 ho hgr _
      have h10 : Below w9.heap.size w9 w10 := ((Below.refl _ w9).alloc (Nat.le_refl _) _).grown hgr (by simp) (fun k e => by cases e)
      have HO10 := Lib.hid ho
      have H10 := Lib.hid h10
      clear ho hgr h10 HS hs11
      go_wp2_with fail
      go_ret2
      refine ⟨S', linkK K p j c, v', _, .det j Hdet.out Hpl.out hlk rfl rfl, HL2.out S' hlk, rfl, ?_, HT9.out.below H10.out, (((Chg.of_below HB6.out).trans HC9.out (fun _ _ h => h)).trans (Chg.of_below (F := fun k => k = g) H10.out) (fun _ _ h => h))⟩
      rw [hpvE, hx3]
      simpa [RcAt, recC, strV] using HO10.out
def nmOf (l : List (List UInt8 × List UInt8)) (x : List UInt8) : Int := match l.findIdx? (fun y => y.1 == x) with | some i => (i : Int) | none => -1
theorem nmOf_some {l : List (List UInt8 × List UInt8)} {x : List UInt8} {k : Nat} {y : List UInt8 × List UInt8} (hk : l[k]? = some y) (hy : y.1 = x) (h : ∀ j z, j < k → l[j]? = some z → z.1 ≠ x) : nmOf l x = (k : Int) := by
  unfold nmOf
  obtain ⟨hlt, he⟩ := List.getElem?_eq_some_iff.1 hk
  have : l.findIdx? (fun y => y.1 == x) = some k := by
    rw [List.findIdx?_eq_some_iff_getElem]
    refine ⟨hlt, by rw [he]; simpa using hy, fun j hj => ?_⟩
    have := h j (l[j]'(by omega)) hj (List.getElem?_eq_getElem (by omega))
    simpa using this
  rw [this]
theorem nmOf_none {l : List (List UInt8 × List UInt8)} {x : List UInt8} (h : ∀ (j : Nat) (z : List UInt8 × List UInt8), l[j]? = some z → z.1 ≠ x) : nmOf l x = -1 := by
  unfold nmOf
  have : l.findIdx? (fun y => y.1 == x) = none := by
    rw [List.findIdx?_eq_none_iff]
    intro y hy
    obtain ⟨j, hj⟩ := List.mem_iff_getElem?.1 hy
    simpa using h j y hj
  rw [this]
theorem str_eq (a b : List UInt8) : ((⟨a.toArray⟩ : ByteArray).toList == (⟨b.toArray⟩ : ByteArray).toList) = decide (a = b) := by
  rw [ByteArray.toList_mk, ByteArray.toList_mk]
  by_cases h : a = b
  · subst h; simp
  · simp [h]
set_option maxRecDepth 100000 in
theorem named1_any (a b x : List UInt8) (g : Nat) (w : World) (hg : w.cell? ⟨g, 0, none⟩ = some (strV x)) :
    Calls Tryz.prog 135 #[.agg #[strV a, strV b], .pointer (some ⟨g, 0, none⟩)] w fun e w' => e = .returned (.bool (decide (a = x))) ∧ Below w.heap.size w w' := by
  have hlt : g < w.heap.size := World.block_lt_of_cell? w ⟨g, 0, none⟩ hg
  have hne : g ≠ w.heap.size := by omega
  unfold strV at *
  have hq := str_eq a x
  generalize hd : decide (a = x) = d at *
  clear hd
  generalize (⟨a.toArray⟩ : ByteArray) = sa at *
  generalize (⟨b.toArray⟩ : ByteArray) = sb at *
  generalize (⟨x.toArray⟩ : ByteArray) = sx at *
  go_enter Tryz.func135, Tryz.ntmps135
  go_wp2
  go_ret
  exact ⟨by rw [← hq]; rfl, (Below.refl _ _).alloc (Nat.le_refl _) _⟩
def NmR (w : World) (l : List (List UInt8 × List UInt8)) (x : List UInt8) (iv : Value) (wr : World) : Prop := ∃ k : Nat, k ≤ l.length ∧ iv = .int .i64 (k : Int) ∧ (∀ j z, j < k → l[j]? = some z → z.1 ≠ x) ∧ Below w.heap.size w wr
def intN : Value → Nat
  | .int _ n => n.toNat
  | _ => 0
set_option maxRecDepth 100000 in
set_option maxHeartbeats 2000000 in
theorem index_attr {B : Nat} {w : World} {v : Value} {l : List (List UInt8 × List UInt8)} {x : List UInt8} {g : Nat} (h : AttrAt B w v l) (hg : w.cell? ⟨g, 0, none⟩ = some (strV x)) (hl : l.length ≤ 1000) :
    Calls Tryz.prog 134 #[v, .func (.func 135) #[] #[.pointer (some ⟨g, 0, none⟩)]] w fun e w' => e = .returned (.int .i64 (nmOf l x)) ∧ Below w.heap.size w w' := by
  have hlt : g < w.heap.size := World.block_lt_of_cell? w ⟨g, 0, none⟩ hg
  obtain ⟨va, vc, rfl, hcs⟩ := h
  have HG := Lib.hid hg
  have HC := Lib.hid hcs
  clear hg hcs
  go_enter Tryz.func134, Tryz.ntmps134
  go_wp2_with fail
  go_loopw [8] (fun iv wr => NmR w l x iv wr) (fun iv _ => l.length - intN iv)
  case atStart => exact ⟨0, Nat.zero_le _, rfl, fun j z hj => absurd hj (Nat.not_lt_zero j), Below.refl _ _⟩
  case round =>
    obtain ⟨k, hk, rfl, hN, hB⟩ := hrel
    have HN := Lib.hid hN
    clear hN
    by_cases hkl : k < l.length
    · obtain ⟨y, hy⟩ : ∃ y, l[k]? = some y := ⟨_, List.getElem?_eq_getElem hkl⟩
      rcases HC.out with rfl | ⟨vg, cur, rfl, _, hgg, hcc⟩
      · simp at hkl
      have hgl := lt_of_block hgg
      have q0 : wr.cell? ⟨vg, k * 2, none⟩ = some (strV y.1) := by
        rw [hB.cell (p := ⟨vg, k * 2, none⟩) hgl, show k * 2 = 2 * k by omega]
        rw [Lib.cell_of_heap hgg]
        exact (hcc k y hy).1
      have q1 : wr.cell? ⟨vg, k * 2 + 1, none⟩ = some (strV y.2) := by
        rw [hB.cell (p := ⟨vg, k * 2 + 1, none⟩) hgl, show k * 2 + 1 = 2 * k + 1 by omega]
        rw [Lib.cell_of_heap hgg]
        exact (hcc k y hy).2
      have hc := (hB.cell (p := ⟨g, 0, none⟩) hlt).trans HG.out
      have HP1 := Lib.hid (named1_any y.1 y.2 x g wr hc)
      have HY := Lib.hid hy
      clear hc hy hgg hcc
      by_cases hyx : y.1 = x
      · have HP := Lib.hid (nmOf_some HY.out hyx HN.out)
        simp only [decide_eq_true hyx] at HP1
        clear hyx
        simp only [strV] at q0 q1 HP1
        go_wp2_with fail
        refine HP1.out.mono ?_
        rintro e w2 ⟨rfl, hb2⟩
        go_wp2_with fail
        go_ret
        exact ⟨by rw [HP.out]; rfl, hB.trans (hb2.mono hB.size)⟩
      · simp only [decide_eq_false hyx] at HP1
        simp only [strV] at q0 q1 HP1
        go_wp2_with fail
        refine HP1.out.mono ?_
        rintro e w2 ⟨rfl, hb2⟩
        go_wp2_with fail
        go_roundw
        case rel =>
          refine ⟨k + 1, by omega, by go_num, fun j z hj hz => ?_, hB.trans (hb2.mono hB.size)⟩
          by_cases e : j = k
          · subst e
            rw [HY.out] at hz
            obtain rfl := Option.some.inj hz
            exact hyx
          · exact HN.out j z (by omega) hz
        case measure => simp [intN]; omega
    · have HP := Lib.hid (nmOf_none (l := l) (x := x) fun j z hz => HN.out j z (by have := (List.getElem?_eq_some_iff.1 hz).1; omega) hz)
      go_wp2_with fail
      go_ret
      exact ⟨by rw [HP.out]; rfl, hB⟩
set_option maxRecDepth 100000 in
set_option maxHeartbeats 2000000 in
theorem named_any {B R g cap : Nat} {S : Tr} {fv : Value} {w : World} (h : TAt B R S (.slice (some ⟨g, 0, none⟩) S.slots.length cap) fv w) (i : Nat) (n : Nd) (hi : S.at i = some n) (x : List UInt8) (hl : n.attrs.length ≤ 1000) :
    Calls Tryz.prog 90 #[.pointer (some (na g i)), strV x] w fun e w' => e = .returned (.int .i64 (nmOf n.attrs x)) ∧ Below w.heap.size w w' := by
  have hb : Below w.heap.size w (w.alloc (.cells #[strV x] 9)) := (Below.refl _ _).alloc (Nat.le_refl _) _
  have hT := h.below hb
  have HI := Lib.hid (index_attr (g := w.heap.size) (x := x) (hT.attrs i n (at_slot hi)) (by have := (Blk.new w [strV x] 9).cell 0; simp) hl)
  have c2 := nd_cell hT hi 2 (by omega)
  simp only [ndC, List.getElem?_cons_succ, List.getElem?_cons_zero] at c2
  obtain ⟨va, vc, hva, _⟩ := h.attrs i n (at_slot hi)
  have hgn : nmOf n.attrs x = nmOf n.attrs x := rfl
  rw [hva] at c2 HI
  generalize nmOf n.attrs x = r at *
  unfold strV at *
  clear h hT hi hb
  go_enter Tryz.func90, Tryz.ntmps90
  go_wp2_with fail
  refine HI.out.mono ?_
  rintro e w2 ⟨rfl, hb2⟩
  go_wp2_with fail
  go_ret
  exact ⟨rfl, ((Below.refl _ _).alloc (Nat.le_refl _) _).trans (hb2.mono (by simp))⟩
theorem element_el {B R g cap : Nat} {S : Tr} {fv : Value} {w : World} {K d} (h : TAt B R S (.slice (some ⟨g, 0, none⟩) S.slots.length cap) fv w) (hL : Lk S K d) (i : Nat) (n : Nd) (hi : S.at i = some n) (hk : n.kind = 2) :
    Calls Tryz.prog 87 #[.pointer (some ⟨R, 0, none⟩), .int .i64 (S.hd i)] w fun e w' => e = .returned (.tuple #[.pointer (some (na g i)), .int .i64 0]) ∧ Below w.heap.size w w' := by
  have HA := Lib.hid (at_some h (S.hd i) (hd_ok hL hi).1 (hd_ix hL hi))
  have c0 := nd_cell h hi 0 (by omega)
  simp only [ndC, List.getElem?_cons_succ, List.getElem?_cons_zero, hk] at c0
  clear h hL hi
  go_enter Tryz.func87, Tryz.ntmps87
  go_wp2_with fail
  refine HA.out.mono ?_
  rintro e w2 ⟨rfl, hb2⟩
  have c1 := cell_keep hb2 c0
  go_wp2_with fail
  go_ret2
  exact ⟨rfl, hb2⟩
theorem element_no {B R g cap : Nat} {S : Tr} {fv : Value} {w : World} {K d} (h : TAt B R S (.slice (some ⟨g, 0, none⟩) S.slots.length cap) fv w) (hL : Lk S K d) (i : Nat) (n : Nd) (hi : S.at i = some n) (hk : n.kind ≠ 2) :
    Calls Tryz.prog 87 #[.pointer (some ⟨R, 0, none⟩), .int .i64 (S.hd i)] w fun e w' => e = .returned (.tuple #[.pointer none, .int .i64 10]) ∧ Below w.heap.size w w' := by
  have HA := Lib.hid (at_some h (S.hd i) (hd_ok hL hi).1 (hd_ix hL hi))
  have c0 := nd_cell h hi 0 (by omega)
  simp only [ndC, List.getElem?_cons_succ, List.getElem?_cons_zero] at c0
  have hk2 : (n.kind == 2) = false := by simpa using hk
  clear h hL hi
  go_enter Tryz.func87, Tryz.ntmps87
  go_wp2_with fail
  refine HA.out.mono ?_
  rintro e w2 ⟨rfl, hb2⟩
  have c1 := cell_keep hb2 c0
  go_wp2_with fail
  go_ret2
  exact ⟨rfl, hb2⟩
def bz (s : ByteArray) (i : Nat) : Nat := (s.get! i).toNat
theorem bz_at (s : ByteArray) (i : Nat) (h : i < s.size) : bz s i = (s[i]'h).toNat := by
  unfold bz
  have := get_at s i h
  rw [Nat.add_zero] at this
  rw [this]
end Go.Proofs.YtacdbnhnhdlmpaaGreatDoor.W
end
