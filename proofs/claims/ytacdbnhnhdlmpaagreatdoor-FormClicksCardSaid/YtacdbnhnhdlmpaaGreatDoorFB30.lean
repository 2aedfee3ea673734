/- Texts joined: Wkl RegX Rng Fcs Grp Tou Chk Chs. -/
import Derived.Test.YtacdbnhnhdlmpaaGreatDoorFB19
import Derived.Test.YtacdbnhnhdlmpaaGreatDoorFB22
import Derived.OrdersIn
import Derived.TacticsIn
import Derived.OwnWalkIn
import Derived.Test.YtacdbnhnhdlmpaaGreatDoorFB26
import Derived.Test.YtacdbnhnhdlmpaaGreatDoorFB21
import Derived.Test.YtacdbnhnhdlmpaaGreatDoorFB27
import Derived.BigQuiet
import Derived.Test.YtacdbnhnhdlmpaaGreatDoorFB20
import Derived.Test.YtacdbnhnhdlmpaaGreatDoorFB25
set_option maxRecDepth 100000
set_option maxHeartbeats 40000000
set_option linter.unusedVariables false
set_option linter.unusedSimpArgs false
section
namespace Go.Proofs.YtacdbnhnhdlmpaaGreatDoor.W
open Go.RowKit
attribute [local go_sem] Oper.semAt_some
def WkCl (R l b N : Nat) (S : Tr) (K : Nat → List Nat) (w0 : World) (J Jx : List Nat → World → Prop) (f i : Nat) : Prop :=
  ∀ m pre W, WkI b w0 W → J pre W → pre.length + (wlk K f i).length ≤ N →
    CallsIn Fence.wide m Tryz.prog 137 #[.pointer (some ⟨R, 0, none⟩), .int .i64 (S.hd i), .func (.yield l) #[] #[]] W fun e W' =>
      (e = .returned (.bool true) ∧ J (pre ++ wlk K f i) W' ∧ KpS b W W') ∨ (e = .returned (.bool false) ∧ ∃ q, Jx q W')
set_option maxRecDepth 100000 in
set_option maxHeartbeats 4000000 in
theorem walkL_step {B R g cap N l b : Nat} {S : Tr} {fv : Value} {w0 : World} {K : Nat → List Nat} {d : Nat → Nat} (h0 : TAt B R S (.slice (some ⟨g, 0, none⟩) S.slots.length cap) fv w0) (hL : Lk S K d) {J Jx : List Nat → World → Prop}
    (hJ : ∀ s W W', J s W → Below W.heap.size W W' → J s W')
    (hY : ∀ m pre x W, (S.at x).isSome = true → J pre W → pre.length < N → YieldAt Fence.wide m Tryz.prog l #[.int .i64 (S.hd x)] W fun e W' => (e = .returned (.bool true) ∧ J (pre ++ [x]) W' ∧ KpS b W W') ∨ (e = .returned (.bool false) ∧ Jx (pre ++ [x]) W'))
    (f i : Nat) (n : Nd) (hi : S.at i = some n) (hw : wlk K f i = i :: (K i).flatMap (wlk K (f - 1))) (ih : ∀ k ∈ K i, WkCl R l b N S K w0 J Jx (f - 1) k) : WkCl R l b N S K w0 J Jx f i := by
  intro m pre W hI hj hN
  rw [hw] at hN ⊢
  obtain ⟨fn, tmps, assign, body, hy, hR⟩ := hY (m - 1) pre i W (by rw [hi]; rfl) hj (by simp at hN; omega)
  have HIH := Lib.hid ih
  have HI := Lib.hid hI
  have HJ := Lib.hid hJ
  have hkl := kids_len hL i
  clear ih hY hI hj hJ hw
  refine callsIn_of_wp Tryz.func137 rfl trivial ?_ rfl
  simp only [Tryz.ntmps137, List.size_toArray, List.length_cons, List.length_nil, Nat.reduceAdd, Nat.reduceSub, Array.replicate_succ, Array.replicate_zero, List.push_toArray, List.append_toArray, List.nil_append, List.cons_append]
  gi_wp2
  refine ⟨fun h => (by cases h), ?_⟩
  refine hR.mono ?_
  rintro e W1 (⟨rfl, hj1, hk1⟩ | ⟨rfl, hx1⟩)
  · have HI1 := Lib.hid (HI.out.kp hk1)
    have HK := Lib.hid (kids_any (h0.wki HI1.out) hL i n hi)
    have HJ1 := Lib.hid hj1
    have HK1 := Lib.hid hk1
    clear hy hR hj1 hk1
    gi_wp2
    refine ⟨trivial, fun h => (by cases h), (callsIn_wide.2 HK.out).mono ?_⟩
    rintro e W2 ⟨v, rfl, ho, hb2⟩
    obtain ⟨va, vc, rfl⟩ := own_shapeB ho
    have hb := HI1.out.bx.2
    have k2 := KpS.below hb hb2
    have HO := Lib.hid ho
    have hI2 := HI1.out.kp k2
    have HS := Lib.hid (show WkL S b K (f - 1) i w0 W pre J (.slice va (K i).length vc) (.int .i64 0) W2 from ⟨0, W1.heap.size, by omega, rfl, by simpa using HJ.out _ _ _ HJ1.out hb2, HK1.out.trans k2, hI2, ho, fun k hk => by
      have h1 := (ho.lt k hk).1
      refine ⟨by omega, fun e => ?_⟩
      rw [slB_below hb hb2] at e
      have := (HI1.out.lo k e).2
      omega⟩)
    clear ho hb2 k2 hI2 HK
    gi_wp2
    gi_loopw [17] (fun jv wr => WkL S b K (f - 1) i w0 W pre J (.slice va (K i).length vc) jv wr) (fun jv _ => (K i).length - (intOf jv).toNat)
    case atStart => exact HS.out
    case round =>
      obtain ⟨j, B2, hjl, rfl, hjj, hkk, hii, hoo, hne⟩ := hrel
      have HOo := Lib.hid hoo
      have HJj := Lib.hid hjj
      have HKk := Lib.hid hkk
      have HIi := Lib.hid hii
      have HNe := Lib.hid hne
      clear hjj hkk hii hne
      by_cases hlt : j < (K i).length
      · obtain ⟨k, hk⟩ : ∃ k, (K i)[j]? = some k := ⟨_, List.getElem?_eq_getElem hlt⟩
        obtain ⟨gv, cp2, hv, hc⟩ := own_int hoo (x := S.hd k) (by rw [List.getElem?_map, hk]; rfl)
        cases hv
        have hcg := World.block_lt_of_cell? wr ⟨gv, j, none⟩ hc
        have HC := Lib.hid (HIH.out k (List.mem_of_getElem? hk) (m - 1) (pre ++ [i] ++ ((K i).take j).flatMap (wlk K (f - 1))) wr HIi.out HJj.out (by
          have e := flatMap_take_succ hk (wlk K (f - 1))
          have h2 : (((K i).take (j + 1)).flatMap (wlk K (f - 1))).length ≤ ((K i).flatMap (wlk K (f - 1))).length := by
            conv => rhs; rw [← List.take_append_drop (j + 1) (K i), List.flatMap_append]
            simp
          rw [e] at h2
          simp only [List.length_append, List.length_cons, List.length_nil] at h2 hN ⊢
          omega))
        have HE := Lib.hid (flatMap_take_succ hk (wlk K (f - 1)))
        clear hoo hk
        gi_wp2
        refine ⟨trivial, fun h => (by cases h), HC.out.mono ?_⟩
        rintro e W3 (⟨rfl, hj3, hk3⟩ | ⟨rfl, q, hx3⟩)
        · have HS3 := Lib.hid (show WkL S b K (f - 1) i w0 W pre J (.slice (some ⟨gv, 0, none⟩) (K i).length vc) (.int .i64 ((j + 1 : Nat) : Int)) W3 from ⟨j + 1, B2, by omega, rfl, by rw [HE.out]; rw [List.append_assoc] at hj3; exact hj3, HKk.out.trans hk3, HIi.out.kp hk3, own_kB HOo.out (fun g hg => by
            obtain ⟨cur, hcur⟩ := own_ty HOo.out hg
            exact (hk3.kept g _ _ _ hcur (HNe.out g hg).1 (HNe.out g hg).2).trans hcur.symm), fun g hg => ⟨(HNe.out g hg).1, fun e => by
              rcases hk3.sl with e2 | e2
              · exact (HNe.out g hg).2 (e2 ▸ e)
              · have := (e2 g e).1; have := (HOo.out.lt g hg).2; omega⟩⟩)
          clear hj3 hk3
          gi_wp2
          go_roundw
          case rel => exact HS3.out
          case measure => simp [intOf]; omega
        · have HX := Lib.hid hx3
          clear hx3
          gi_wp2
          go_ret
          exact .inr ⟨rfl, _, HX.out⟩
      · obtain rfl : j = (K i).length := by omega
        rw [List.take_length] at HJj
        clear hoo
        gi_wp2
        go_ret
        refine .inl ⟨rfl, ?_, HKk.out⟩
        have := HJj.out
        rw [List.append_assoc] at this
        exact this
  · have HX := Lib.hid hx1
    clear hy hR hx1
    gi_wp2
    go_ret
    exact .inr ⟨rfl, _, HX.out⟩
theorem walkL_in {B R g cap N l b : Nat} {S : Tr} {fv : Value} {w0 : World} {K : Nat → List Nat} {d : Nat → Nat} (h0 : TAt B R S (.slice (some ⟨g, 0, none⟩) S.slots.length cap) fv w0) (hL : Lk S K d) {J Jx : List Nat → World → Prop}
    (hJ : ∀ s W W', J s W → Below W.heap.size W W' → J s W')
    (hY : ∀ m pre x W, (S.at x).isSome = true → J pre W → pre.length < N → YieldAt Fence.wide m Tryz.prog l #[.int .i64 (S.hd x)] W fun e W' => (e = .returned (.bool true) ∧ J (pre ++ [x]) W' ∧ KpS b W W') ∨ (e = .returned (.bool false) ∧ Jx (pre ++ [x]) W')) :
    ∀ (f i : Nat) (n : Nd), S.at i = some n → 128 - d i = f → WkCl R l b N S K w0 J Jx f i := by
  intro f
  induction f with
  | zero =>
    intro i n hi hf
    have hK : K i = [] := by
      cases e : K i with
      | nil => rfl
      | cons k t =>
        have h1 := hL.dep i k (by rw [e]; simp)
        have h2 := hL.low k
        omega
    exact walkL_step h0 hL hJ hY 0 i n hi (by rw [hK]; rfl) (fun k hk => by rw [hK] at hk; cases hk)
  | succ f ih =>
    intro i n hi hf
    refine walkL_step h0 hL hJ hY (f + 1) i n hi rfl (fun k hk => ?_)
    obtain ⟨j, hj⟩ := List.mem_iff_getElem?.1 hk
    obtain ⟨nk, hnk⟩ := hL.some hj
    have hdk := hL.dep i k hk
    have hlow := hL.low k
    exact ih k nk hnk (by omega)
set_option maxRecDepth 100000 in
set_option maxHeartbeats 4000000 in
theorem walk1_l {B R g cap b i Bs Bh n : Nat} {S : Tr} {fv : Value} {w0 w : World} {K : Nat → List Nat} {d : Nat → Nat} (h0 : TAt B R S (.slice (some ⟨g, 0, none⟩) S.slots.length cap) fv w0) (hL : Lk S K d) (nd : Nd) (hi : S.at i = some nd)
    (hI : WkI b w0 w) (hBs : Blk w Bs [.pointer (some ⟨R, 0, none⟩)] 25) (hBh : Blk w Bh [.int .i64 (S.hd i)] 3) :
    SeqStopsK Fence.wide n Tryz.prog 136 #[.pointer (some ⟨Bs, 0, none⟩), .pointer (some ⟨Bh, 0, none⟩)] (fun x : Sl S => #[Value.int .i64 (S.hd x.1)]) (KpS b) (fun ys => ys.map (·.1) = wlk K (128 - d i) i) (fun _ => True) (wlk K (128 - d i) i).length w := by
  intro l J Jx W hW hJ hJx hY hj
  have hbl := hI.bx.2
  have hIW := hI.kp (KpS.below hbl hW)
  have hlW : b < W.heap.size := hIW.bx.2
  have hix : S.ix (S.hd i) = some i := hd_ix hL hi
  have HAt := Lib.hid (at_some (h0.wki hIW) (S.hd i) (hd_ok hL hi).1 hix)
  have c0 := (hBs.below hW).cell 0
  have c1 := (hBh.below hW).cell 0
  simp only [List.getElem?_cons_zero] at c0 c1
  have HW := Lib.hid (fun W1 (hb : Below W.heap.size W W1) => walkL_in (b := b) (N := (wlk K (128 - d i) i).length) (l := l) (J := fun s W => ∃ s' : List (Sl S), s'.map (·.1) = s ∧ J s' W) (Jx := fun s W => ∃ s' : List (Sl S), s'.map (·.1) = s ∧ Jx s' W) h0 hL (fun s W W' hs hb => by
    obtain ⟨s', e, hs⟩ := hs
    exact ⟨s', e, hJ s' W W' none hs (grown_of_below hb) (fun r e => by cases e)⟩) (fun m pre x W hx hp hl => by
    obtain ⟨s', e, hs⟩ := hp
    refine yield_mono (yield_any m (hY s' ⟨x, hx⟩ W hs (by rw [← e, List.length_map] at hl; exact hl))) ?_
    rintro e2 W2 (⟨h1, h2, h3⟩ | ⟨h1, h2⟩)
    · exact .inl ⟨h1, ⟨s' ++ [⟨x, hx⟩], by rw [List.map_append, e]; rfl, h2⟩, h3⟩
    · exact .inr ⟨h1, _, by rw [List.map_append, e]; rfl, h2⟩) (128 - d i) i nd hi rfl (n - 1) [] W1 (hIW.kp (KpS.below hlW hb)) ⟨[], rfl, hJ _ _ _ none hj (grown_of_below hb) (fun r e => by cases e)⟩ (by simp))
  have HBs := Lib.hid (hBs.below hW)
  have HBh := Lib.hid (hBh.below hW)
  clear hY hj hJ hJx hI hIW hBs hBh
  refine callsIn_of_wp Tryz.func136 rfl trivial ?_ rfl
  simp only [Tryz.ntmps136, List.size_toArray, List.length_cons, List.length_nil, Nat.reduceAdd, Nat.reduceSub, Array.replicate_succ, Array.replicate_zero, List.push_toArray, List.append_toArray, List.nil_append, List.cons_append]
  gi_wp2
  refine ⟨trivial, fun h => (by cases h), (callsIn_wide.2 HAt.out).mono ?_⟩
  rintro e W1 ⟨rfl, hb1⟩
  have HW1 := Lib.hid (HW.out W1 hb1)
  have d0 := (HBs.out.below hb1).cell 0
  have d1 := (HBh.out.below hb1).cell 0
  simp only [List.getElem?_cons_zero] at d0 d1
  clear hb1 c0 c1 HW
  gi_wp2
  refine ⟨trivial, fun h => (by cases h), HW1.out.mono ?_⟩
  rintro e W2 (⟨rfl, hj2, hk2⟩ | ⟨rfl, q, hx2⟩)
  · have HJ2 := Lib.hid hj2
    clear hj2 hk2
    gi_wp2
    go_end0
    obtain ⟨s', e, h⟩ := HJ2.out
    exact ⟨⟨_, rfl⟩, .inl ⟨s', by simpa using e, h⟩⟩
  · have HX := Lib.hid hx2
    clear hx2
    gi_wp2
    go_end0
    obtain ⟨s', e, h⟩ := HX.out
    exact ⟨⟨_, rfl⟩, .inr ⟨s', trivial, h⟩⟩
end Go.Proofs.YtacdbnhnhdlmpaaGreatDoor.W
end
section
namespace Go.Proofs.YtacdbnhnhdlmpaaGreatDoor.W.RZ
open Go
open Go.Proofs.YtacdbnhnhdlmpaaGreatDoor.W
end Go.Proofs.YtacdbnhnhdlmpaaGreatDoor.W.RZ
end
section
namespace Go.Proofs.YtacdbnhnhdlmpaaGreatDoor.W
open Go.RowKit
def VWk : List Value → Value → Prop := fun _ v => ∃ m : Nat, v = .func (.func 136) #[] #[.pointer (some ⟨m, 0, none⟩), .pointer (some ⟨m + 1, 0, none⟩)]
def FWk (R : Nat) (hd : Int) (B : Nat) : List Value → World → Prop
  | [v], w' => ∀ m : Nat, v = .func (.func 136) #[] #[.pointer (some ⟨m, 0, none⟩), .pointer (some ⟨m + 1, 0, none⟩)] → B ≤ m ∧ Blk w' m [.pointer (some ⟨R, 0, none⟩)] 25 ∧ Blk w' (m + 1) [.int .i64 hd] 3
  | _, _ => True
theorem fwk_below {R B : Nat} {hd : Int} (k : List Value) (w1 w2 : World) (h : FWk R hd B k w1) (hb : Below w1.heap.size w1 w2) : FWk R hd B k w2 := by
  match k, h with
  | [], _ => trivial
  | [v], h =>
    intro m e
    obtain ⟨h1, h2, h3⟩ := h m e
    exact ⟨h1, h2.below hb, h3.below hb⟩
  | _ :: _ :: _, _ => trivial
def ColP (S : Tr) (p : Nat → Bool) (w : World) (pre : List (Sl S)) (W : World) : Prop :=
  ∃ v, Blk W w.heap.size [v] 60 ∧ W.ownsRow w.heap.size 3 1 v ((pre.map (fun y => y.1)).filter p).length (hdC S ((pre.map (fun y => y.1)).filter p)) ∧ Below w.heap.size w W
theorem colP_own {S : Tr} {p : Nat → Bool} {w : World} {pre : List (Sl S)} {W W' : World} {row : Option Nat} (hs : ColP S p w pre W) (hg : W.grownBy W' row) (hr : ∀ k, row = some k → w.heap.size ≤ k ∧ ∃ o : Obj, W.heap[k]? = some o ∧ o.isCells = false) : ColP S p w pre W' := by
  obtain ⟨v, hb, ho, hB⟩ := hs
  refine ⟨v, blk_own hb hg hr, own_kB ho (fun k hk => hg.block k (ho.lt k hk).2 (fun e => ?_)), hB.grown hg hB.size (fun k e => by have := (hr k e).1; omega)⟩
  obtain ⟨_, o, h1, h2⟩ := hr k e.symm
  obtain ⟨cur, hc⟩ := own_ty ho hk
  rw [hc] at h1; cases h1; cases h2
theorem colP_below {S : Tr} {p : Nat → Bool} {w : World} {pre : List (Sl S)} {W W' : World} (hs : ColP S p w pre W) (hb : Below W.heap.size W W') : ColP S p w pre W' := by
  obtain ⟨v, h1, ho, hB⟩ := hs
  exact ⟨v, h1.below hb, own_keepB ho hb, hB.trans (hb.mono hB.size)⟩
theorem colP_lt {S : Tr} {p : Nat → Bool} {w : World} {pre : List (Sl S)} {W : World} (hs : ColP S p w pre W) : w.heap.size < W.heap.size := by
  obtain ⟨v, h1, _, _⟩ := hs
  exact h1.lt
theorem colP_no {S : Tr} {p : Nat → Bool} {w : World} {pre : List (Sl S)} {x : Sl S} {W : World} (hs : ColP S p w pre W) (hx : p x.1 = false) : ColP S p w (pre ++ [x]) W := by
  have e : ((pre ++ [x]).map (fun y => y.1)).filter p = (pre.map (fun y => y.1)).filter p := by
    rw [List.map_append, List.map_singleton, filter_snoc, if_neg (by rw [hx]; simp)]
  unfold ColP at hs ⊢
  rw [e]
  exact hs
theorem colP_start {S : Tr} {p : Nat → Bool} {w W : World} (hb : Blk W w.heap.size [.slice none 0 0] 60) (hB : Below w.heap.size w W) : ColP S p w [] W := ⟨.slice none 0 0, hb, World.ownsRow_nil _ _ _ _, hB⟩
theorem colP_wki {S : Tr} {p : Nat → Bool} {w : World} {pre : List (Sl S)} {W : World} (hs : ColP S p w pre W) : WkI w.heap.size w W := by
  obtain ⟨v, h1, ho, hB⟩ := hs
  refine ⟨hB.size, fun k cs t fr hk => (hB.block k (hlt hk)).trans hk, fun k hk => ?_, Nat.le_refl _, h1.lt⟩
  have c := h1.cell 0
  simp only [List.getElem?_cons_zero] at c
  unfold slB at hk
  rw [c] at hk
  exact ho.lt k hk
theorem has_any {B R : Nat} {S : Tr} {sv fv : Value} {w : World} {K d} (h : TAt B R S sv fv w) (hL : Lk S K d) (i : Nat) (n : Nd) (hi : S.at i = some n) (hl : n.attrs.length ≤ 1000) (x : List UInt8) :
    Calls Tryz.prog 81 #[.pointer (some ⟨R, 0, none⟩), .int .i64 (S.hd i), .string ⟨x.toArray⟩] w fun e w' => e = .returned (.bool (attV n x).isSome) ∧ Below w.heap.size w w' := by
  have HA := Lib.hid (attr_at h hL i n hi hl x)
  generalize attV n x = t at *
  clear h hi hl
  go_enter Tryz.func81, Tryz.ntmps81
  go_wp2_with fail
  refine HA.out.mono ?_
  rintro e w1 ⟨rfl, hb1⟩
  go_wp2_with fail
  go_ret
  exact ⟨rfl, hb1⟩
end Go.Proofs.YtacdbnhnhdlmpaaGreatDoor.W
end
section
namespace Go.Proofs.YtacdbnhnhdlmpaaGreatDoor.W
open Go.RowKit
attribute [local go_sem] Oper.semAt_some
end Go.Proofs.YtacdbnhnhdlmpaaGreatDoor.W
end
section
namespace Go.Proofs.YtacdbnhnhdlmpaaGreatDoor.W
open Go.RowKit


end Go.Proofs.YtacdbnhnhdlmpaaGreatDoor.W
end
