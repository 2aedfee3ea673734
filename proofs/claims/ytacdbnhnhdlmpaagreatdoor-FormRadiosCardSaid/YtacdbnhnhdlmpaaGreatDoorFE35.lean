/- Texts joined: TwX WkV. -/
import Derived.Test.YtacdbnhnhdlmpaaGreatDoorFE34
import Derived.Test.YtacdbnhnhdlmpaaGreatDoorFE32
set_option maxRecDepth 100000
set_option maxHeartbeats 40000000
set_option linter.unusedVariables false
set_option linter.unusedSimpArgs false
section
namespace Go.Proofs.YtacdbnhnhdlmpaaGreatDoor.W
open Go.RowKit
end Go.Proofs.YtacdbnhnhdlmpaaGreatDoor.W
end
section
namespace Go.Proofs.YtacdbnhnhdlmpaaGreatDoor.W
open Go.RowKit
attribute [local go_sem] Oper.semAt_some
structure KpV (P : Nat → Obj → Prop) (W W' : World) : Prop where
  size : W.heap.size ≤ W'.heap.size
  kept : ∀ (k : Nat) (cs : Array Value) (t : TypeId) (fr : Nat × Nat), W.heap[k]? = some (Obj.cells cs t fr) → ¬ P k (.cells cs t fr) → W'.heap[k]? = some (Obj.cells cs t fr)
theorem KpV.trans {P : Nat → Obj → Prop} {A C D : World} (h : KpV P A C) (k : KpV P C D) : KpV P A D :=
  ⟨Nat.le_trans h.size k.size, fun i cs t fr hi h1 => k.kept i cs t fr (h.kept i cs t fr hi h1) h1⟩
theorem KpV.put {P : Nat → Obj → Prop} {W : World} (l : Nat) (o o' : Obj) (h : W.heap[l]? = some o) (ho : o.isCells = false) : KpV P W (W.putObj l o') := by
  refine ⟨by simp, fun k cs t fr hk _ => (World.putObj_heap_other (fun e => ?_)).trans hk⟩
  subst e; rw [hk] at h; cases h; cases ho
theorem KpV.below {P : Nat → Obj → Prop} {W W' : World} (k : Below W.heap.size W W') : KpV P W W' :=
  ⟨k.size, fun i cs t fr hi _ => (k.block i (hlt hi)).trans hi⟩
def VOk (P : Nat → Obj → Prop) (N0 : Nat) : Prop := ∀ k cs fr, N0 ≤ k → ¬ P k (.cells cs 3 fr)
theorem TAt.wkv {P : Nat → Obj → Prop} {B R : Nat} {S : Tr} {sv fv : Value} {w W : World} (h : TAt B R S sv fv w) (hk : KpV P w W) (hF : ∀ k cs t fr, trF R S sv fv k → w.heap[k]? = some (Obj.cells cs t fr) → ¬ P k (.cells cs t fr)) : TAt B R S sv fv W := by
  have keep : ∀ {e sz n : Nat} {v : Value} {xs : List Value}, w.ownsRow B e sz v n xs → (∀ g, v.ownBlock = some g → trF R S sv fv g) → W.ownsRow B e sz v n xs := fun h hv => own_kB h (fun g hg => by
    obtain ⟨cur, hc⟩ := own_ty h hg
    exact (hk.kept g _ _ _ hc (hF g _ _ _ (hv g hg) hc)).trans hc.symm)
  refine ⟨h.blk.kept ((hk.kept R _ _ _ h.blk (hF R _ _ _ (.inl rfl) h.blk)).trans (show _ = _ from h.blk).symm), keep h.slots (fun g hg => .inr (.inl hg)), keep h.free (fun g hg => .inr (.inr (.inl hg))), fun i n hi => ?_, h.base, h.few⟩
  obtain ⟨a, cp, e, hx⟩ := h.attrs i n hi
  by_cases hne : n.attrs = []
  · exact ⟨a, cp, e, .inl hne⟩
  rcases hx with hx | ⟨g', cur', e1, e2, e3, e4⟩
  · exact absurd hx hne
  · exact ⟨a, cp, e, .inr ⟨g', cur', e1, e2, hk.kept g' _ _ _ e3 (hF g' _ _ _ (.inr (.inr (.inr ⟨i, n, at_of hi, hne, by rw [e, e1]; rfl⟩))) e3), e4⟩⟩
def WkLV (S : Tr) (P : Nat → Obj → Prop) (K : Nat → List Nat) (f i : Nat) (w0 W : World) (pre : List Nat) (J : List Nat → World → Prop) (v : Value) (jv : Value) (wr : World) : Prop :=
  ∃ (j B2 : Nat), j ≤ (K i).length ∧ jv = .int .i64 (j : Int) ∧ J (pre ++ [i] ++ ((K i).take j).flatMap (wlk K f)) wr ∧ KpV P W wr ∧ KpV P w0 wr ∧ wr.ownsRow B2 3 1 v (K i).length (hC ((K i).map S.hd)) ∧ ∀ k, v.ownBlock = some k → w0.heap.size ≤ k
def WkCV (R l : Nat) (P : Nat → Obj → Prop) (N : Nat) (S : Tr) (K : Nat → List Nat) (w0 : World) (J Jx : List Nat → World → Prop) (f i : Nat) : Prop :=
  ∀ m pre W, KpV P w0 W → J pre W → pre.length + (wlk K f i).length ≤ N →
    CallsIn Fence.wide m Tryz.prog 137 #[.pointer (some ⟨R, 0, none⟩), .int .i64 (S.hd i), .func (.yield l) #[] #[]] W fun e W' =>
      (e = .returned (.bool true) ∧ J (pre ++ wlk K f i) W' ∧ KpV P W W') ∨ (e = .returned (.bool false) ∧ ∃ q, q <+: pre ++ wlk K f i ∧ Jx q W')
set_option maxRecDepth 100000 in
set_option maxHeartbeats 4000000 in
theorem walkV_step {P : Nat → Obj → Prop} {B R g cap N l : Nat} {S : Tr} {fv : Value} {w0 : World} {K : Nat → List Nat} {d : Nat → Nat} (hV : VOk P w0.heap.size) (h0 : ∀ W, KpV P w0 W → TAt B R S (.slice (some ⟨g, 0, none⟩) S.slots.length cap) fv W) (hL : Lk S K d) {J Jx : List Nat → World → Prop}
    (hJ : ∀ s W W', J s W → Below W.heap.size W W' → J s W')
    (hY : ∀ m pre x W, (S.at x).isSome = true → J pre W → pre.length < N → YieldAt Fence.wide m Tryz.prog l #[.int .i64 (S.hd x)] W fun e W' => (e = .returned (.bool true) ∧ J (pre ++ [x]) W' ∧ KpV P W W') ∨ (e = .returned (.bool false) ∧ Jx (pre ++ [x]) W'))
    (f i : Nat) (n : Nd) (hi : S.at i = some n) (hw : wlk K f i = i :: (K i).flatMap (wlk K (f - 1))) (ih : ∀ k ∈ K i, WkCV R l P N S K w0 J Jx (f - 1) k) : WkCV R l P N S K w0 J Jx f i := by
  intro m pre W hI hj hN
  rw [hw] at hN ⊢
  obtain ⟨fn, tmps, assign, body, hy, hR⟩ := hY (m - 1) pre i W (by rw [hi]; rfl) hj (by simp at hN; omega)
  have HIH := Lib.hid ih
  have HI := Lib.hid hI
  have HJ := Lib.hid hJ
  have hkl := kids_len hL i
  clear ih hY hI hj hJ hw
  refine callsIn_of_wp Tryz.func137 rfl trivial ?_ rfl
  simp only [Tryz.ntmps137, List.size_toArray, List.length_cons, List.length_nil, Nat.reduceAdd, Nat.reduceSub, Array.replicate_succ, Array.replicate_zero, List.push_toArray, List.append_toArray, List.nil_append, List.cons_append]
  gi_wp2
  refine ⟨fun h => (by cases h), ?_⟩
  refine hR.mono ?_
  rintro e W1 (⟨rfl, hj1, hk1⟩ | ⟨rfl, hx1⟩)
  · have HI1 := Lib.hid (HI.out.trans hk1)
    have HK := Lib.hid (kids_any (h0 _ HI1.out) hL i n hi)
    have HJ1 := Lib.hid hj1
    have HK1 := Lib.hid hk1
    clear hy hR hj1 hk1
    gi_wp2
    refine ⟨trivial, fun h => (by cases h), (callsIn_wide.2 HK.out).mono ?_⟩
    rintro e W2 ⟨v, rfl, ho, hb2⟩
    obtain ⟨va, vc, rfl⟩ := own_shapeB ho
    have k2 := KpV.below (P := P) hb2
    have HO := Lib.hid ho
    have hI2 := HI1.out.trans k2
    have HS := Lib.hid (show WkLV S P K (f - 1) i w0 W pre J (.slice va (K i).length vc) (.int .i64 0) W2 from ⟨0, W1.heap.size, by omega, rfl, by simpa using HJ.out _ _ _ HJ1.out hb2, HK1.out.trans k2, hI2, ho, fun k hk => by
      have h1 := (ho.lt k hk).1
      have := HI1.out.size
      omega⟩)
    clear ho hb2 k2 hI2 HK
    gi_wp2
    gi_loopw [17] (fun jv wr => WkLV S P K (f - 1) i w0 W pre J (.slice va (K i).length vc) jv wr) (fun jv _ => (K i).length - (intOf jv).toNat)
    case atStart => exact HS.out
    case round =>
      obtain ⟨j, B2, hjl, rfl, hjj, hkk, hii, hoo, hne⟩ := hrel
      have HOo := Lib.hid hoo
      have HJj := Lib.hid hjj
      have HKk := Lib.hid hkk
      have HIi := Lib.hid hii
      have HNe := Lib.hid hne
      clear hjj hkk hii hne
      by_cases hlt : j < (K i).length
      · obtain ⟨k, hk⟩ : ∃ k, (K i)[j]? = some k := ⟨_, List.getElem?_eq_getElem hlt⟩
        obtain ⟨gv, cp2, hv, hc⟩ := own_int hoo (x := S.hd k) (by rw [List.getElem?_map, hk]; rfl)
        cases hv
        have hcg := World.block_lt_of_cell? wr ⟨gv, j, none⟩ hc
        have HC := Lib.hid (HIH.out k (List.mem_of_getElem? hk) (m - 1) (pre ++ [i] ++ ((K i).take j).flatMap (wlk K (f - 1))) wr HIi.out HJj.out (by
          have e := flatMap_take_succ hk (wlk K (f - 1))
          have h2 : (((K i).take (j + 1)).flatMap (wlk K (f - 1))).length ≤ ((K i).flatMap (wlk K (f - 1))).length := by
            conv => rhs; rw [← List.take_append_drop (j + 1) (K i), List.flatMap_append]
            simp
          rw [e] at h2
          simp only [List.length_append, List.length_cons, List.length_nil] at h2 hN ⊢
          omega))
        have HE := Lib.hid (flatMap_take_succ hk (wlk K (f - 1)))
        clear hoo hk
        gi_wp2
        refine ⟨trivial, fun h => (by cases h), HC.out.mono ?_⟩
        rintro e W3 (⟨rfl, hj3, hk3⟩ | ⟨rfl, q, hx3⟩)
        · have HS3 := Lib.hid (show WkLV S P K (f - 1) i w0 W pre J (.slice (some ⟨gv, 0, none⟩) (K i).length vc) (.int .i64 ((j + 1 : Nat) : Int)) W3 from ⟨j + 1, B2, by omega, rfl, by rw [HE.out]; rw [List.append_assoc] at hj3; exact hj3, HKk.out.trans hk3, HIi.out.trans hk3, own_kB HOo.out (fun g hg => by
            obtain ⟨cur, hcur⟩ := own_ty HOo.out hg
            exact (hk3.kept g _ _ _ hcur (hV g _ _ (HNe.out g hg))).trans hcur.symm), HNe.out⟩)
          clear hj3 hk3
          gi_wp2
          go_roundw
          case rel => exact HS3.out
          case measure => simp [intOf]; omega
        · obtain ⟨hq, hx3⟩ := hx3
          have HX := Lib.hid hx3
          have HQ := Lib.hid (show q <+: pre ++ i :: (K i).flatMap (wlk K (f - 1)) from hq.trans (by
            rw [← List.take_append_drop (j + 1) (K i), List.flatMap_append, HE.out]
            exact ⟨((K i).drop (j + 1)).flatMap (wlk K (f - 1)), by simp⟩))
          clear hx3 hq
          gi_wp2
          go_ret
          exact .inr ⟨rfl, _, HQ.out, HX.out⟩
      · obtain rfl : j = (K i).length := by omega
        rw [List.take_length] at HJj
        clear hoo
        gi_wp2
        go_ret
        refine .inl ⟨rfl, ?_, HKk.out⟩
        have := HJj.out
        rw [List.append_assoc] at this
        exact this
  · have HX := Lib.hid hx1
    clear hy hR hx1
    gi_wp2
    go_ret
    exact .inr ⟨rfl, _, ⟨(K i).flatMap (wlk K (f - 1)), by simp⟩, HX.out⟩
theorem walkV_in {P : Nat → Obj → Prop} {B R g cap N l : Nat} {S : Tr} {fv : Value} {w0 : World} {K : Nat → List Nat} {d : Nat → Nat} (hV : VOk P w0.heap.size) (h0 : ∀ W, KpV P w0 W → TAt B R S (.slice (some ⟨g, 0, none⟩) S.slots.length cap) fv W) (hL : Lk S K d) {J Jx : List Nat → World → Prop}
    (hJ : ∀ s W W', J s W → Below W.heap.size W W' → J s W')
    (hY : ∀ m pre x W, (S.at x).isSome = true → J pre W → pre.length < N → YieldAt Fence.wide m Tryz.prog l #[.int .i64 (S.hd x)] W fun e W' => (e = .returned (.bool true) ∧ J (pre ++ [x]) W' ∧ KpV P W W') ∨ (e = .returned (.bool false) ∧ Jx (pre ++ [x]) W')) :
    ∀ (f i : Nat) (n : Nd), S.at i = some n → 128 - d i = f → WkCV R l P N S K w0 J Jx f i := by
  intro f
  induction f with
  | zero =>
    intro i n hi hf
    have hK : K i = [] := by
      cases e : K i with
      | nil => rfl
      | cons k t =>
        have h1 := hL.dep i k (by rw [e]; simp)
        have h2 := hL.low k
        omega
    exact walkV_step hV h0 hL hJ hY 0 i n hi (by rw [hK]; rfl) (fun k hk => by rw [hK] at hk; cases hk)
  | succ f ih =>
    intro i n hi hf
    refine walkV_step hV h0 hL hJ hY (f + 1) i n hi rfl (fun k hk => ?_)
    obtain ⟨j, hj⟩ := List.mem_iff_getElem?.1 hk
    obtain ⟨nk, hnk⟩ := hL.some hj
    have hdk := hL.dep i k hk
    have hlow := hL.low k
    exact ih k nk hnk (by omega)
abbrev Sl (S : Tr) : Type := {x : Nat // (S.at x).isSome = true}
theorem yield_mono {m : Nat} {P : Program} {l : Nat} {args : Array Value} {W : World} {R R' : Ending → World → Prop} (h : YieldAt Fence.wide m P l args W R) (hR : ∀ e w, R e w → R' e w) : YieldAt Fence.wide m P l args W R' := by
  obtain ⟨fn, tmps, assign, body, hy, h1⟩ := h
  exact ⟨fn, tmps, assign, body, hy, RoundIn.mono h1 hR⟩
set_option maxRecDepth 100000 in
set_option maxHeartbeats 4000000 in
theorem walk1_v {P : Nat → Obj → Prop} {B R g cap i Bs Bh n : Nat} {S : Tr} {fv : Value} {w0 w : World} {K : Nat → List Nat} {d : Nat → Nat} (hV : VOk P w0.heap.size) (h0 : ∀ W, KpV P w0 W → TAt B R S (.slice (some ⟨g, 0, none⟩) S.slots.length cap) fv W) (hL : Lk S K d) (nd : Nd) (hi : S.at i = some nd)
    (hI : KpV P w0 w) (hBs : Blk w Bs [.pointer (some ⟨R, 0, none⟩)] 25) (hBh : Blk w Bh [.int .i64 (S.hd i)] 3) :
    SeqStopsK Fence.wide n Tryz.prog 136 #[.pointer (some ⟨Bs, 0, none⟩), .pointer (some ⟨Bh, 0, none⟩)] (fun x : Sl S => #[Value.int .i64 (S.hd x.1)]) (KpV P) (fun ys => ys.map (·.1) = wlk K (128 - d i) i) (fun ys => ys.map (·.1) <+: wlk K (128 - d i) i) (wlk K (128 - d i) i).length w := by
  intro l J Jx W hW hJ hJx hY hj
  have hIW := hI.trans (KpV.below hW)
  have hix : S.ix (S.hd i) = some i := hd_ix hL hi
  have HAt := Lib.hid (at_some (h0 _ hIW) (S.hd i) (hd_ok hL hi).1 hix)
  have c0 := (hBs.below hW).cell 0
  have c1 := (hBh.below hW).cell 0
  simp only [List.getElem?_cons_zero] at c0 c1
  have HW := Lib.hid (fun W1 (hb : Below W.heap.size W W1) => walkV_in (N := (wlk K (128 - d i) i).length) (l := l) (J := fun s W => ∃ s' : List (Sl S), s'.map (·.1) = s ∧ J s' W) (Jx := fun s W => ∃ s' : List (Sl S), s'.map (·.1) = s ∧ Jx s' W) hV h0 hL (fun s W W' hs hb => by
    obtain ⟨s', e, hs⟩ := hs
    exact ⟨s', e, hJ s' W W' none hs (grown_of_below hb) (fun r e => by cases e)⟩) (fun m pre x W hx hp hl => by
    obtain ⟨s', e, hs⟩ := hp
    refine yield_mono (yield_any m (hY s' ⟨x, hx⟩ W hs (by rw [← e, List.length_map] at hl; exact hl))) ?_
    rintro e2 W2 (⟨h1, h2, h3⟩ | ⟨h1, h2⟩)
    · exact .inl ⟨h1, ⟨s' ++ [⟨x, hx⟩], by rw [List.map_append, e]; rfl, h2⟩, h3⟩
    · exact .inr ⟨h1, _, by rw [List.map_append, e]; rfl, h2⟩) (128 - d i) i nd hi rfl (n - 1) [] W1 (hIW.trans (KpV.below hb)) ⟨[], rfl, hJ _ _ _ none hj (grown_of_below hb) (fun r e => by cases e)⟩ (by simp))
  have HBs := Lib.hid (hBs.below hW)
  have HBh := Lib.hid (hBh.below hW)
  clear hY hj hJ hJx hI hIW hBs hBh
  refine callsIn_of_wp Tryz.func136 rfl trivial ?_ rfl
  simp only [Tryz.ntmps136, List.size_toArray, List.length_cons, List.length_nil, Nat.reduceAdd, Nat.reduceSub, Array.replicate_succ, Array.replicate_zero, List.push_toArray, List.append_toArray, List.nil_append, List.cons_append]
  gi_wp2
  refine ⟨trivial, fun h => (by cases h), (callsIn_wide.2 HAt.out).mono ?_⟩
  rintro e W1 ⟨rfl, hb1⟩
  have HW1 := Lib.hid (HW.out W1 hb1)
  have d0 := (HBs.out.below hb1).cell 0
  have d1 := (HBh.out.below hb1).cell 0
  simp only [List.getElem?_cons_zero] at d0 d1
  clear hb1 c0 c1 HW
  gi_wp2
  refine ⟨trivial, fun h => (by cases h), HW1.out.mono ?_⟩
  rintro e W2 (⟨rfl, hj2, hk2⟩ | ⟨rfl, q, hq2, hx2⟩)
  · have HJ2 := Lib.hid hj2
    clear hj2 hk2
    gi_wp2
    go_end0
    obtain ⟨s', e, h⟩ := HJ2.out
    exact ⟨⟨_, rfl⟩, .inl ⟨s', by simpa using e, h⟩⟩
  · have HX := Lib.hid hx2
    have HQ := Lib.hid hq2
    clear hx2 hq2
    gi_wp2
    go_end0
    obtain ⟨s', e, h⟩ := HX.out
    exact ⟨⟨_, rfl⟩, .inr ⟨s', by rw [e]; simpa using HQ.out, h⟩⟩
end Go.Proofs.YtacdbnhnhdlmpaaGreatDoor.W
end
