/- Texts joined: DtA. -/
import Derived.Test.YtacdbnhnhdlmpaaGreatDoorFD10
set_option maxRecDepth 100000
set_option maxHeartbeats 40000000
set_option linter.unusedVariables false
set_option linter.unusedSimpArgs false
section
namespace Go.Proofs.YtacdbnhnhdlmpaaGreatDoor.W
open Go.RowKit
attribute [local go_sem] Oper.semAt_some
def ColD (p : Nat → Bool) (g : Nat → Atr) (w : World) (pre : List Nat) (W : World) : Prop :=
  ∃ v, Blk W w.heap.size [v] 81 ∧ W.ownsRow w.heap.size 85 2 v (pre.filter p).length (attrC ((pre.filter p).map g)) ∧ Below w.heap.size w W
section
variable {p : Nat → Bool} {g : Nat → Atr} {w W W' : World} {pre : List Nat}
theorem colD_own {row : Option Nat} (hs : ColD p g w pre W) (hg : W.grownBy W' row) (hr : ∀ k, row = some k → w.heap.size ≤ k ∧ ∃ o : Obj, W.heap[k]? = some o ∧ o.isCells = false) : ColD p g w pre W' := by
  obtain ⟨v, hb, ho, hB⟩ := hs
  refine ⟨v, blk_own hb hg hr, own_kB ho (fun k hk => hg.block k (ho.lt k hk).2 (fun e => ?_)), hB.grown hg hB.size (fun k e => by have := (hr k e).1; omega)⟩
  obtain ⟨_, o, h1, h2⟩ := hr k e.symm
  obtain ⟨cur, hc⟩ := own_ty ho hk
  rw [hc] at h1; cases h1; cases h2
theorem colD_below (hs : ColD p g w pre W) (hb : Below W.heap.size W W') : ColD p g w pre W' := by
  obtain ⟨v, h1, ho, hB⟩ := hs
  exact ⟨v, h1.below hb, own_keepB ho hb, hB.trans (hb.mono hB.size)⟩
theorem colD_lt (hs : ColD p g w pre W) : w.heap.size < W.heap.size := by
  obtain ⟨v, h1, _, _⟩ := hs
  exact h1.lt
theorem colD_no {x : Nat} (hs : ColD p g w pre W) (hx : p x = false) : ColD p g w (pre ++ [x]) W := by
  have e : (pre ++ [x]).filter p = pre.filter p := by rw [filter_snoc, if_neg (by rw [hx]; simp)]
  unfold ColD at hs ⊢
  rw [e]
  exact hs
theorem colD_start (hb : Blk W w.heap.size [.slice none 0 0] 81) (hB : Below w.heap.size w W) : ColD p g w [] W := ⟨.slice none 0 0, hb, World.ownsRow_nil _ _ _ _, hB⟩
theorem colD_wki (hs : ColD p g w pre W) : WkI w.heap.size w W := by
  obtain ⟨v, h1, ho, hB⟩ := hs
  refine ⟨hB.size, fun k cs t fr hk => (hB.block k (hlt hk)).trans hk, fun k hk => ?_, Nat.le_refl _, h1.lt⟩
  have c := h1.cell 0
  simp only [List.getElem?_cons_zero] at c
  unfold slB at hk
  rw [c] at hk
  exact ho.lt k hk
end
section
variable {R Q : Nat} {S : Tr} {sv fv fa : Value} {w w0 : World} {B : Nat} {K : Nat → List Nat} {d : Nat → Nat} {X : List FX} {foc : Int} {l : List Ob}
set_option maxRecDepth 100000 in
set_option maxHeartbeats 32000000 in
theorem data_any (D : DcOk S K d) (h : All B w0 (fsL Q fa foc X ++ l) w) (hOo : trO R S sv fv ∈ l) (hnod : NoD X) (hX : X.length ≤ 90000) (i : Nat) (n : Nd) (hi : S.at i = some n) (by_ : Int) :
    Calls Tryz.prog 42 #[.pointer (some ⟨Q, 0, none⟩), .pointer (some ⟨R, 0, none⟩), .int .i64 (S.hd i), .int .i64 by_] w fun e w' => ∃ v, e = .returned v ∧ w'.ownsRow w.heap.size 85 2 v ((ord K d).filter (dtP S d (fun x => chkd (gH S K d) (rdH S) (atH S) (uX X) (S.hd x)) (S.hd i) by_)).length (attrC (((ord K d).filter (dtP S d (fun x => chkd (gH S K d) (rdH S) (atH S) (uX X) (S.hd x)) (S.hd i) by_)).map (dtA S K d))) ∧ Below w.heap.size w w' := by
  have hT : TAt 0 R S sv fv w := h.P _ (List.mem_append_right _ hOo)
  rw [dt_same D hi]
  obtain ⟨ck, hck⟩ : ∃ ck : Nat → Bool, (fun x => chkd (gH S K d) (rdH S) (atH S) (uX X) (S.hd x)) = ck := ⟨_, rfl⟩
  rw [hck]
  have HCkx := Lib.hid (fun x => (show chkd (gH S K d) (rdH S) (atH S) (uX X) (S.hd x) = ck x from by rw [← hck]))
  have HKi := Lib.hid (fun (x : Nat) (nx : Nd) (hx : S.at x = some nx) (wx : World) (hb : Below w.heap.size w wx) => kind_any (hT.below hb) D.lk x nx hx (D.al x nx hx))
  have HAt := Lib.hid (fun (x : Nat) (nx : Nd) (hx : S.at x = some nx) (wx : World) (hb : Below w.heap.size w wx) => attr_at (hT.below hb) D.lk x nx hx (D.al x nx hx) sName)
  have HHa := Lib.hid (fun (x : Nat) (nx : Nd) (hx : S.at x = some nx) (wx : World) (hb : Below w.heap.size w wx) => has_any (hT.below hb) D.lk x nx hx (D.al x nx hx) sDisab)
  have HOw := Lib.hid (fun (x : Nat) (nx : Nd) (hx : S.at x = some nx) (wx : World) (hb : Below w.heap.size w wx) => owner_any (hT.below hb) D.lk D.al D.nm x nx hx)
  have HCh := Lib.hid (fun (x : Nat) (nx : Nd) (hx : S.at x = some nx) (wx : World) (hb : Below w.heap.size w wx) => checked_any D (h.still hb) hOo x nx hx (by omega))
  have HVa := Lib.hid (fun (x : Nat) (nx : Nd) (hx : S.at x = some nx) (hk : kindN nx ≠ 0) (wx : World) (hb : Below w.heap.size w wx) => (show Calls Tryz.prog 15 #[.pointer (some ⟨Q, 0, none⟩), .pointer (some ⟨R, 0, none⟩), .int .i64 (S.hd x)] wx fun e w' => e = .returned (.tuple #[.string ⟨(valN S K d x nx).toArray⟩, .int .i64 0]) ∧ Below wx.heap.size wx w' from by
    have hv := value_any (h.still hb) (List.mem_append_right _ hOo) (fd_any (B := B) (w0 := w0) (R := R) (sv := sv) (fv := fv) D x nx hx) hk (fun e => by rw [hnod.get] at e; cases e) (by omega)
    have e : valX X (S.hd x) (valN S K d x nx) = valN S K d x nx := by unfold valX; rw [hnod.get]; rfl
    rw [e] at hv
    exact hv))
  have HIs := Lib.hid (fun (x : Nat) (nx : Nd) (hx : S.at x = some nx) (fm : Int) => (show dtP S d ck fm by_ x = (!(kindN nx == 0) && (!(kindN nx == 7) && (!(nmV nx == []) && (!(attV nx sDisab).isSome && (hO S (ownI S d x) == fm && (!(isCk nx && !ck x) && !(kindN nx == 6 && S.hd x != by_))))))) from by unfold dtP; rw [hx]))
  have HDa := Lib.hid (fun (x : Nat) (nx : Nd) (hx : S.at x = some nx) => (show dtA S K d x = (nmV nx, valN S K d x nx) from by unfold dtA; rw [hx]))
  have HT := Lib.hid (fun (wx : World) (hb : Below w.heap.size w wx) => hT.below hb)
  have HD := Lib.hid D
  have HN := Lib.hid hi
  have hwl := Nat.le_trans (wlk_len D.lk (128 - d i) i (by rw [hi]; rfl)) D.len
  obtain ⟨gs, cap, rfl⟩ := slots_some hT (by have := at_lt hi; omega)
  have k1 := (((Blk.new w [.pointer (some ⟨Q, 0, none⟩)] 54).alloc (.cells #[.pointer (some ⟨R, 0, none⟩)] 25)).alloc (.cells #[.int .i64 (S.hd i)] 3)).alloc (.cells #[.int .i64 by_] 3)
  have k2 := ((Blk.new (w.alloc (.cells #[.pointer (some ⟨Q, 0, none⟩)] 54)) [.pointer (some ⟨R, 0, none⟩)] 25).alloc (.cells #[.int .i64 (S.hd i)] 3)).alloc (.cells #[.int .i64 by_] 3)
  have k3 := (Blk.new ((w.alloc (.cells #[.pointer (some ⟨Q, 0, none⟩)] 54)).alloc (.cells #[.pointer (some ⟨R, 0, none⟩)] 25)) [.int .i64 (S.hd i)] 3).alloc (.cells #[.int .i64 by_] 3)
  have k4 := Blk.new (((w.alloc (.cells #[.pointer (some ⟨Q, 0, none⟩)] 54)).alloc (.cells #[.pointer (some ⟨R, 0, none⟩)] 25)).alloc (.cells #[.int .i64 (S.hd i)] 3)) [.int .i64 by_] 3
  have e2 : (w.alloc (.cells #[.pointer (some ⟨Q, 0, none⟩)] 54)).heap.size = w.heap.size + 1 := by simp
  have e3 : ((w.alloc (.cells #[.pointer (some ⟨Q, 0, none⟩)] 54)).alloc (.cells #[.pointer (some ⟨R, 0, none⟩)] 25)).heap.size = w.heap.size + 2 := by simp
  have e4 : (((w.alloc (.cells #[.pointer (some ⟨Q, 0, none⟩)] 54)).alloc (.cells #[.pointer (some ⟨R, 0, none⟩)] 25)).alloc (.cells #[.int .i64 (S.hd i)] 3)).heap.size = w.heap.size + 3 := by simp
  rw [e2] at k2
  rw [e3] at k3
  rw [e4] at k4
  have hb4 : Below w.heap.size w ((((w.alloc (.cells #[.pointer (some ⟨Q, 0, none⟩)] 54)).alloc (.cells #[.pointer (some ⟨R, 0, none⟩)] 25)).alloc (.cells #[.int .i64 (S.hd i)] 3)).alloc (.cells #[.int .i64 by_] 3)) := ((((Below.refl _ _).alloc (Nat.le_refl _) _).alloc (by simp) _).alloc (by simp; omega) _).alloc (by simp; omega) _
  have HK1 := Lib.hid k1
  have HK2 := Lib.hid k2
  have HK3 := Lib.hid k3
  have HK4 := Lib.hid k4
  have HB4 := Lib.hid hb4
  clear h hT hOo hi k1 k2 k3 k4 hb4 e2 e3 e4 D hck hnod hX
  refine (callsIn_wide (n := 8)).1 ?_
  refine callsIn_of_wp_marks Tryz.func42 rfl trivial ?_ rfl
  simp only [Tryz.ntmps42, List.size_toArray, List.length_cons, List.length_nil, Nat.reduceAdd, Nat.reduceSub, Array.replicate_succ, Array.replicate_zero, List.push_toArray, List.append_toArray, List.nil_append, List.cons_append]
  refine wpIn_wide.2 ?_
  go_upto_region 1 with fail
  have hs4 : w.heap.size + 4 = ((((w.alloc (.cells #[.pointer (some ⟨Q, 0, none⟩)] 54)).alloc (.cells #[.pointer (some ⟨R, 0, none⟩)] 25)).alloc (.cells #[.int .i64 (S.hd i)] 3)).alloc (.cells #[.int .i64 by_] 3)).heap.size := by simp
  generalize (((w.alloc (.cells #[.pointer (some ⟨Q, 0, none⟩)] 54)).alloc (.cells #[.pointer (some ⟨R, 0, none⟩)] 25)).alloc (.cells #[.int .i64 (S.hd i)] 3)).alloc (.cells #[.int .i64 by_] 3) = w4 at *
  have kb5 := Blk.new w4 [.slice none 0 0] 81
  have hb5 : Below w4.heap.size w4 (w4.alloc (.cells #[.slice none 0 0] 81)) := (Below.refl _ _).alloc (Nat.le_refl _) _
  have d2 := (HK2.out.below hb5).cell 0
  have d3 := (HK3.out.below hb5).cell 0
  simp only [List.getElem?_cons_zero] at d2 d3
  have hs5 : (w4.alloc (.cells #[.slice none 0 0] 81)).heap.size = w4.heap.size + 1 := by simp
  go_upto_region 2 with fail
  generalize w4.alloc (.cells #[.slice none 0 0] 81) = w5 at *
  have HB5 := Lib.hid hb5
  have HKb5 := Lib.hid kb5
  have HS4 := Lib.hid hs4
  have HS5 := Lib.hid hs5
  clear hb5 kb5 hs4 hs5
  go_wp2_with fail
  refine (walk_any R (S.hd i) w5).mono ?_
  rintro e w6 ⟨rfl, hw6⟩
  have hb6 : Below w5.heap.size w5 w6 := by rw [hw6]; exact ((Below.refl _ _).alloc (Nat.le_refl _) _).alloc (by simp) _
  have hBs : Blk w6 w5.heap.size [.pointer (some ⟨R, 0, none⟩)] 25 := by rw [hw6]; exact (Blk.new w5 [.pointer (some ⟨R, 0, none⟩)] 25).alloc _
  have hBh : Blk w6 (w5.heap.size + 1) [.int .i64 (S.hd i)] 3 := by
    have k2 := Blk.new (w5.alloc (.cells #[.pointer (some ⟨R, 0, none⟩)] 25)) [.int .i64 (S.hd i)] 3
    rw [show (w5.alloc (.cells #[.pointer (some ⟨R, 0, none⟩)] 25)).heap.size = w5.heap.size + 1 by simp] at k2
    rw [hw6]; exact k2
  have hI := colD_start (p := dtP S d ck (S.hd i) by_) (g := dtA S K d) (HKb5.out.below hb6) (bthen HB5.out hb6)
  have HI := Lib.hid hI
  have HSq := Lib.hid (fun m => walk1_l (n := m) (HT.out _ HB4.out) HD.out.lk n HN.out (colD_wki hI) hBs hBh)
  have hs6 := hb6.size
  clear hw6 hb6 hBs hBh hI d2 d3
  go_wp2_with fail
  refine (wpIn_wide (n := 8)).1 ?_
  refine rangeFunc_put (α := Sl S) (fun x a => { tmps := (a.tmps.setIfInBounds 21 (.int .i64 (S.hd x.1))).setIfInBounds 10 (.int .i64 (S.hd x.1)), defers := [] }) (by omega) (gf := 136) (lb := #[.pointer (some ⟨w5.heap.size, 0, none⟩), .pointer (some ⟨w5.heap.size + 1, 0, none⟩)]) rfl (enters_of Tryz.func136 (by kernel_rfl) rfl) (HSq.out 7) KpS.trans (fun W l o o' hl h hc _ => KpS.put2 l o o' h hc (by have := HS5.out; omega)) (fun _ => rfl)
    (fun pre W => ColD (dtP S d ck (S.hd i) by_) (dtA S K d) w4 (pre.map (fun y => y.1)) W) (fun c pre W => False) ?own (fun _ _ _ _ _ hs _ _ => hs) HI.out ?assign ?body ?done ?stop
  case own =>
    intro pre W W' row hI hg hr
    exact colD_own hI hg (fun k e => ⟨by have := (hr k e).1; have := HS5.out; omega, (hr k e).2⟩)
  case assign =>
    intro l x W K hK
    gi_wp2
    exact hK
  case stop =>
    intro D c pre W hD hs hx
    cases hx
  case body =>
    as_aux_lemma =>
      rintro l' pre ⟨x, hxs⟩ W hI hlt'
      obtain ⟨nx, hnx⟩ := Option.isSome_iff_exists.1 hxs
      have hbW : Below w4.heap.size w4 W := by obtain ⟨_, _, _, h⟩ := hI; exact h
      have hbw := bthen HB4.out hbW
      have HKx := Lib.hid (fun wx (hb : Below W.heap.size W wx) => HKi.out x nx hnx wx (bthen hbw hb))
      have HAx := Lib.hid (fun wx (hb : Below W.heap.size W wx) => HAt.out x nx hnx wx (bthen hbw hb))
      have HHx := Lib.hid (fun wx (hb : Below W.heap.size W wx) => HHa.out x nx hnx wx (bthen hbw hb))
      have HOx := Lib.hid (fun wx (hb : Below W.heap.size W wx) => HOw.out x nx hnx wx (bthen hbw hb))
      have HCx := Lib.hid (fun wx (hb : Below W.heap.size W wx) => HCh.out x nx hnx wx (bthen hbw hb))
      have HVx := Lib.hid (fun (hk : kindN nx ≠ 0) wx (hb : Below W.heap.size W wx) => HVa.out x nx hnx hk wx (bthen hbw hb))
      have hisr := HIs.out x nx hnx (S.hd i)
      have hda := HDa.out x nx hnx
      have hnmx : (attV nx sName).getD [] = nmV nx := rfl
      rw [hnmx] at HAx
      rw [HCkx.out x] at HCx
      have hisk : isCk nx = (kindN nx == 3 || kindN nx == 4) := rfl
      rw [hisk] at HCx hisr
      have c1 := (HK1.out.below hbW).cell 0
      have c2 := (HK2.out.below hbW).cell 0
      have c3 := (HK3.out.below hbW).cell 0
      have c4 := (HK4.out.below hbW).cell 0
      simp only [List.getElem?_cons_zero] at c1 c2 c3 c4
      have hbl := colD_lt hI
      have hplen : ((pre.map (fun y => y.1)).filter (dtP S d ck (S.hd i) by_)).length ≤ 100 := by
        have := List.length_filter_le (dtP S d ck (S.hd i) by_) (pre.map (fun y => y.1))
        rw [List.length_map] at this
        omega
      have HI := Lib.hid hI
      have HIr := Lib.hid hisr
      have HDx := Lib.hid hda
      generalize nmV nx = nmx at *
      generalize (attV nx sDisab).isSome = dis at *
      generalize hO S (ownI S d x) = owx at *
      generalize kindN nx = kx at *
      generalize valN S K d x nx = vx at *
      generalize ck x = cx at *
      clear hI hbW hbw hisr hnmx hisk hda HK1 HK2 HK3 HK4 HSq hnx
      simp only [List.setIfInBounds_toArray, List.set_cons_zero, List.set_cons_succ]
      gi_wp2_with fail
      refine ⟨trivial, (CallsIn.inRound l' (callsIn_wide.2 (HKx.out _ (Below.refl _ _)))).mono ?_⟩
      rintro e w7 ⟨rfl, hb7⟩
      have Hb7 := Lib.hid hb7
      have k2 := cell_keep hb7 c2
      clear hb7 HKx
      gi_wp2_with fail
      refine ⟨trivial, (CallsIn.inRound l' (callsIn_wide.2 (HAx.out _ Hb7.out))).mono ?_⟩
      rintro e w8 ⟨rfl, hb8⟩
      have Hb8 := Lib.hid (bthen Hb7.out hb8)
      have k2 := cell_keep Hb8.out c2
      have k3 := cell_keep Hb8.out c3
      have hne := stb_ne w8
      have y2 := fun (q : InS (StB w8)) => cell_keep q.h k2
      have y3 := fun (q : InS (StB w8)) => cell_keep q.h k3
      clear hb8 HAx Hb7
      gi_wp2_with fail
      by_cases h0 : kx = 0
      · have e0 : ((kx : Int) == 0) = true := by simp [h0]
        as_aux_lemma =>
          refine reg_fX (fun _ _ => True) (fun k v => match k with | [] => v = .bool dis | _ => v = .int .i64 owx) 22 (by kernel_rfl) (by kernel_rfl) (by kernel_rfl) (fun _ _ _ _ _ => trivial) trivial ?_
          simp only [List.take_succ_cons, List.take_zero, List.drop_succ_cons, List.drop_zero]
          repeat (first
            | (refine RZ.m_held (by rfl) (by rfl) (fun K hK => ?_); go_big_quiet_step (fail); refine wpQuiet_nil ?_; refine hK.out _ ?_; clear hK K)
            | (refine RZ.m_skip (by rfl) ?_; simp only [Act.put, List.setIfInBounds_toArray, List.set_cons_zero, List.set_cons_succ]))
          refine RZ.m_nil ?_
          intro w9 hb9 _
          have Hb9 := Lib.hid (bthen Hb8.out (show Below w8.heap.size w8 w9 from hb9))
          clear y2 y3 hne hb9 k2 k3 HHx HOx
          have HP := Lib.hid (show dtP S d ck (S.hd i) by_ x = false from by rw [HIr.out]; simp [h0])
          gi_wp2_with fail
          exact ⟨keeps_below Hb9.out, KpS.below hbl Hb9.out, by simp only [List.map_append, List.map_cons, List.map_nil]; exact colD_no (colD_below HI.out Hb9.out) HP.out⟩
      · have e0 : ((kx : Int) == 0) = false := by simp; omega
        by_cases h7 : kx = 7
        · have e7 : ((kx : Int) == 7) = true := by simp [h7]
          as_aux_lemma =>
            refine reg_fX (fun _ _ => True) (fun k v => match k with | [] => v = .bool dis | _ => v = .int .i64 owx) 22 (by kernel_rfl) (by kernel_rfl) (by kernel_rfl) (fun _ _ _ _ _ => trivial) trivial ?_
            simp only [List.take_succ_cons, List.take_zero, List.drop_succ_cons, List.drop_zero]
            repeat (first
              | (refine RZ.m_held (by rfl) (by rfl) (fun K hK => ?_); go_big_quiet_step (fail); refine wpQuiet_nil ?_; refine hK.out _ ?_; clear hK K)
              | (refine RZ.m_skip (by rfl) ?_; simp only [Act.put, List.setIfInBounds_toArray, List.set_cons_zero, List.set_cons_succ]))
            refine RZ.m_nil ?_
            intro w9 hb9 _
            have Hb9 := Lib.hid (bthen Hb8.out (show Below w8.heap.size w8 w9 from hb9))
            clear y2 y3 hne hb9 k2 k3 HHx HOx
            have HP := Lib.hid (show dtP S d ck (S.hd i) by_ x = false from by rw [HIr.out]; simp [h7])
            gi_wp2_with fail
            exact ⟨keeps_below Hb9.out, KpS.below hbl Hb9.out, by simp only [List.map_append, List.map_cons, List.map_nil]; exact colD_no (colD_below HI.out Hb9.out) HP.out⟩
        · have e7 : ((kx : Int) == 7) = false := by simp; omega
          by_cases hn : nmx = []
          · have en : (nmx == []) = true := by simp [hn]
            have en2 : nmx.isEmpty = true := by simp [hn]
            as_aux_lemma =>
              refine reg_fX (fun _ _ => True) (fun k v => match k with | [] => v = .bool dis | _ => v = .int .i64 owx) 22 (by kernel_rfl) (by kernel_rfl) (by kernel_rfl) (fun _ _ _ _ _ => trivial) trivial ?_
              simp only [List.take_succ_cons, List.take_zero, List.drop_succ_cons, List.drop_zero]
              repeat (first
                | (refine RZ.m_held (by rfl) (by rfl) (fun K hK => ?_); go_big_quiet_step (fail); refine wpQuiet_nil ?_; refine hK.out _ ?_; clear hK K)
                | (refine RZ.m_skip (by rfl) ?_; simp only [Act.put, List.setIfInBounds_toArray, List.set_cons_zero, List.set_cons_succ]))
              refine RZ.m_nil ?_
              intro w9 hb9 _
              have Hb9 := Lib.hid (bthen Hb8.out (show Below w8.heap.size w8 w9 from hb9))
              clear y2 y3 hne hb9 k2 k3 HHx HOx
              have HP := Lib.hid (show dtP S d ck (S.hd i) by_ x = false from by rw [HIr.out]; simp [hn])
              gi_wp2_with fail
              exact ⟨keeps_below Hb9.out, KpS.below hbl Hb9.out, by simp only [List.map_append, List.map_cons, List.map_nil]; exact colD_no (colD_below HI.out Hb9.out) HP.out⟩
          · have en : (nmx == []) = false := by simpa using hn
            have en2 : nmx.isEmpty = false := by simpa using hn
            cases dis with
            | true =>
              as_aux_lemma =>
                refine reg_fX (fun _ _ => True) (fun k v => match k with | [] => v = .bool true | _ => v = .int .i64 owx) 22 (by kernel_rfl) (by kernel_rfl) (by kernel_rfl) (fun _ _ _ _ _ => trivial) trivial ?_
                simp only [List.take_succ_cons, List.take_zero, List.drop_succ_cons, List.drop_zero]
                repeat (first
                  | (refine RZ.m_held (by rfl) (by rfl) (fun K hK => ?_); go_big_quiet_step (fail); refine wpQuiet_nil ?_; refine hK.out _ ?_; clear hK K)
                  | (refine RZ.m_skip (by rfl) ?_; simp only [Act.put, List.setIfInBounds_toArray, List.set_cons_zero, List.set_cons_succ]))
                refine RZ.m_call (by rfl) (by rfl) (fun w => by go_simp; exact ⟨rfl, rfl⟩) (⟨_, rfl⟩) (fun X wx hx => ?_) (fun v hv => ?_)
                · refine (HHx.out _ (bthen Hb8.out hx.1)).mono ?_
                  rintro e wy ⟨rfl, hb⟩
                  exact ⟨_, rfl, rfl, bthen hx.1 hb, trivial⟩
                obtain rfl : v = .bool true := hv
                simp only [Act.put, List.setIfInBounds_toArray, List.set_cons_zero, List.set_cons_succ]
                repeat (first
                  | (refine RZ.m_held (by rfl) (by rfl) (fun K hK => ?_); go_big_quiet_step (fail); refine wpQuiet_nil ?_; refine hK.out _ ?_; clear hK K)
                  | (refine RZ.m_skip (by rfl) ?_; simp only [Act.put, List.setIfInBounds_toArray, List.set_cons_zero, List.set_cons_succ]))
                refine RZ.m_nil ?_
                intro w9 hb9 _
                have Hb9 := Lib.hid (bthen Hb8.out (show Below w8.heap.size w8 w9 from hb9))
                clear y2 y3 hne hb9 k2 k3 HHx HOx
                have HP := Lib.hid (show dtP S d ck (S.hd i) by_ x = false from by rw [HIr.out]; simp [h0])
                gi_wp2_with fail
                exact ⟨keeps_below Hb9.out, KpS.below hbl Hb9.out, by simp only [List.map_append, List.map_cons, List.map_nil]; exact colD_no (colD_below HI.out Hb9.out) HP.out⟩
            | false =>
              by_cases ho : owx = S.hd i
              · have eo : (owx != S.hd i) = false := by simp [ho]
                refine reg_fX (fun _ _ => True) (fun k v => match k with | [] => v = .bool false | _ => v = .int .i64 owx) 22 (by kernel_rfl) (by kernel_rfl) (by kernel_rfl) (fun _ _ _ _ _ => trivial) trivial ?_
                simp only [List.take_succ_cons, List.take_zero, List.drop_succ_cons, List.drop_zero]
                repeat (first
                  | (refine RZ.m_held (by rfl) (by rfl) (fun K hK => ?_); go_big_quiet_step (fail); refine wpQuiet_nil ?_; refine hK.out _ ?_; clear hK K)
                  | (refine RZ.m_skip (by rfl) ?_; simp only [Act.put, List.setIfInBounds_toArray, List.set_cons_zero, List.set_cons_succ]))
                refine RZ.m_call (by rfl) (by rfl) (fun w => by go_simp; exact ⟨rfl, rfl⟩) (⟨_, rfl⟩) (fun X wx hx => ?_) (fun v hv => ?_)
                · refine (HHx.out _ (bthen Hb8.out hx.1)).mono ?_
                  rintro e wy ⟨rfl, hb⟩
                  exact ⟨_, rfl, rfl, bthen hx.1 hb, trivial⟩
                obtain rfl : v = .bool false := hv
                simp only [Act.put, List.setIfInBounds_toArray, List.set_cons_zero, List.set_cons_succ]
                repeat (first
                  | (refine RZ.m_held (by rfl) (by rfl) (fun K hK => ?_); go_big_quiet_step (fail); refine wpQuiet_nil ?_; refine hK.out _ ?_; clear hK K)
                  | (refine RZ.m_skip (by rfl) ?_; simp only [Act.put, List.setIfInBounds_toArray, List.set_cons_zero, List.set_cons_succ]))
                refine RZ.m_call (by rfl) (by rfl) (fun w => by go_simp; exact ⟨rfl, rfl⟩) (⟨_, rfl⟩) (fun X wx hx => ?_) (fun v hv => ?_)
                · refine (HOx.out _ (bthen Hb8.out hx.1)).mono ?_
                  rintro e wy ⟨rfl, hb⟩
                  exact ⟨_, rfl, rfl, bthen hx.1 hb, trivial⟩
                obtain rfl : v = .int .i64 owx := hv
                simp only [Act.put, List.setIfInBounds_toArray, List.set_cons_zero, List.set_cons_succ]
                repeat (first
                  | (refine RZ.m_held (by rfl) (by rfl) (fun K hK => ?_); go_big_quiet_step (fail); refine wpQuiet_nil ?_; refine hK.out _ ?_; clear hK K)
                  | (refine RZ.m_skip (by rfl) ?_; simp only [Act.put, List.setIfInBounds_toArray, List.set_cons_zero, List.set_cons_succ]))
                refine RZ.m_nil ?_
                intro w9 hb9 _
                have Hb9 := Lib.hid (bthen Hb8.out (show Below w8.heap.size w8 w9 from hb9))
                clear y2 y3 hne hb9 k2 k3 HHx HOx
                have k1 := cell_keep Hb9.out c1
                have k2 := cell_keep Hb9.out c2
                have HC9 := Lib.hid (HCx.out _ Hb9.out)
                clear HCx Hb8
                gi_wp2_with fail
                refine ⟨trivial, (CallsIn.inRound l' (callsIn_wide.2 HC9.out)).mono ?_⟩
                rintro e w10 ⟨rfl, hb10⟩
                have Hb10 := Lib.hid (bthen Hb9.out hb10)
                have k1 := cell_keep Hb10.out c1
                have k2 := cell_keep Hb10.out c2
                have k4 := cell_keep Hb10.out c4
                clear hb10 HC9 Hb9
                by_cases h34 : kx = 3 ∨ kx = 4
                · have eb : (kx == 3 || kx == 4) = true := by simpa using h34
                  rw [eb, if_pos rfl, if_pos rfl]
                  have e6 : ((kx : Int) == 6) = false := by simp; omega
                  have h6 : ¬ kx = 6 := by omega
                  cases cx with
                  | false =>
                    as_aux_lemma =>
                      have HP := Lib.hid (show dtP S d ck (S.hd i) by_ x = false from by rw [HIr.out]; simp [eb])
                      gi_wp2_with fail
                      exact ⟨keeps_below Hb10.out, KpS.below hbl Hb10.out, by simp only [List.map_append, List.map_cons, List.map_nil]; exact colD_no (colD_below HI.out Hb10.out) HP.out⟩
                  | true =>
                    as_aux_lemma =>
                      have HP := Lib.hid (show dtP S d ck (S.hd i) by_ x = true from by rw [HIr.out]; simp [h0, h7, hn, ho, h6])
                      have HVy := Lib.hid (HVx.out h0 _ Hb10.out)
                      gi_wp2_with fail
                      refine ⟨trivial, (CallsIn.inRound l' (callsIn_wide.2 HVy.out)).mono ?_⟩
                      rintro e w12 ⟨rfl, hb12⟩
                      have Hbz := Lib.hid (bthen Hb10.out hb12)
                      have hI12 := colD_below HI.out Hbz.out
                      clear hb12 HVy
                      obtain ⟨v, hbx, ho, hB⟩ := hI12
                      obtain ⟨va, vc, rfl⟩ := own_shapeB ho
                      have HO := Lib.hid ho
                      have HBx := Lib.hid hbx
                      have HB := Lib.hid hB
                      have d0 := hbx.cell 0
                      have g0 := hbx.free 0
                      simp only [List.getElem?_cons_zero] at d0
                      have hbl8 := hbx.lt
                      have hfs := filter_snoc (dtP S d ck (S.hd i) by_) (pre.map (fun y => y.1)) x
                      rw [if_pos HP.out] at hfs
                      have HFs := Lib.hid hfs
                      have hDy := HDx.out
                      have HDy := Lib.hid hDy
                      generalize (pre.map (fun y => y.1)).filter (dtP S d ck (S.hd i) by_) = fl at *
                      have hb13 : Below w12.heap.size w12 (w12.alloc (.cells #[.string ⟨nmx.toArray⟩, .string ⟨vx.toArray⟩] 85)) := (Below.refl _ _).alloc (Nat.le_refl _) _
                      have HB13 := Lib.hid hb13
                      have hsz8 := HB.out.size
                      clear hbx ho hB hb13 hfs hDy k4
                      gi_wp2_with (first
                        | (gi_at_builtin; refine wpListIn_append_B etT (own_keepB HO.out HB13.out) (by simp; omega) (own_at (n := 1) (size := 2) (Blk.new w12 (attrC [(nmx, vx)]) 85) rfl (by omega)) (attrC_one _) (by omega) (by omega) rfl _ _ rfl rfl rfl ?_; intro v' w14 ho2 hg2 hv2;
                            obtain ⟨va', vc', rfl⟩ := own_shapeB ho2; have kb2 := (Blk.below HBx.out HB13.out).kept (hg2.block w4.heap.size (by simp; omega) (fun e => by
                              obtain ⟨cur, hc⟩ := own_ty HO.out e.symm
                              exact blk_ne hc HBx.out (by decide) rfl));
                            have d1 := kb2.cell 0; have e1 := kb2.free 0; simp only [List.getElem?_cons_zero] at d1; have HO2 := Lib.hid ho2; have HG2 := Lib.hid hg2; have HV2 := Lib.hid hv2; have HK2b := Lib.hid kb2; clear ho2 hg2 hv2 kb2)
                        | gi_in)
                      have hO1 := own_keepB HO.out HB13.out
                      have hg := HG2.out
                      have hw9 : (w12.alloc (.cells #[.string ⟨nmx.toArray⟩, .string ⟨vx.toArray⟩] 85)).heap.size = w12.heap.size + 1 := by simp
                      have kb3 := HK2b.out.set 0 (.slice va' (fl.length + 1) vc')
                      simp only [List.set_cons_zero] at kb3
                      have e1 : slB w4.heap.size w12 = (Value.slice va fl.length vc).ownBlock := by unfold slB; rw [d0]; rfl
                      have e3 : slB w4.heap.size (w14.setCell ⟨w4.heap.size, 0, none⟩ (.slice va' (fl.length + 1) vc')) = (Value.slice va' (fl.length + 1) vc').ownBlock := by
                        unfold slB
                        have := kb3.cell 0
                        simp only [List.getElem?_cons_zero] at this
                        rw [this]; rfl
                      have hne2 : ∀ k, (Value.slice va' (fl.length + 1) vc').ownBlock = some k → k ≠ w4.heap.size := fun k hk e => by
                        obtain ⟨cur, hc⟩ := own_ty HO2.out hk
                        subst e
                        exact blk_ne hc HK2b.out (by decide) rfl
                      refine ⟨(keeps_below Hbz.out).trans ((keeps_below HB13.out).trans (KeepsOthers.trans ⟨hg.size, fun k o hk ho => (hg.block k (Array.getElem?_eq_some_iff.1 hk).1 (fun e => by
                        obtain ⟨cur, hc⟩ := own_ty hO1 e.symm
                        rw [hc] at hk; cases hk; cases ho)).trans hk⟩ (KeepsOthers.setCell _ _ _))), (KpS.below hbl Hbz.out).trans ⟨?_, ?_, ?_⟩, ?_⟩
                      · have := hg.size
                        simp only [World.setCell, Array.size_modify]
                        omega
                      · intro k cs t fr hk h1 h2
                        rw [e1] at h2
                        have hkl := (Array.getElem?_eq_some_iff.1 hk).1
                        exact (Below.heap_setCell _ _ _ _ h1).trans ((hg.block k (by omega) (fun e => h2 e.symm)).trans ((HB13.out.block k hkl).trans hk))
                      · rw [e1, e3]
                        rcases HV2.out with e | e
                        · exact .inl e
                        · refine .inr (fun k hk => ?_)
                          rw [e] at hk
                          cases hk
                          refine ⟨by omega, ?_⟩
                          have := (HO2.out.lt _ e).2
                          simpa [World.setCell] using this
                      · simp only [List.map_append, List.map_cons, List.map_nil]
                        refine ⟨.slice va' (fl.length + 1) vc', kb3, ?_, ?_⟩
                        · rw [HFs.out, show (fl ++ [x]).length = fl.length + 1 by simp, List.map_append, attrC_app, List.map_singleton, HDy.out]
                          exact own_kB HO2.out (fun k hk => Below.heap_setCell _ _ _ _ (hne2 k hk))
                        · exact ((HB.out.alloc HB.out.size (.cells #[.string ⟨nmx.toArray⟩, .string ⟨vx.toArray⟩] 85)).grown hg (by have := HB.out.size; omega) (fun k e => (hO1.lt k e).1)).setCell (p := ⟨w4.heap.size, 0, none⟩) (Nat.le_refl _) _
                · have eb : (kx == 3 || kx == 4) = false := by simp; omega
                  rw [eb, if_neg (by simp), if_neg (by simp)]
                  by_cases h6 : kx = 6
                  · have e6 : ((kx : Int) == 6) = true := by simp [h6]
                    by_cases hby : S.hd x = by_
                    · have eby : (S.hd x != by_) = false := by simp [hby]
                      as_aux_lemma =>
                        have HP := Lib.hid (show dtP S d ck (S.hd i) by_ x = true from by rw [HIr.out]; simp [h0, h7, hn, ho, eb, hby])
                        clear hby
                        have HVy := Lib.hid (HVx.out h0 _ Hb10.out)
                        gi_wp2_with fail
                        refine ⟨trivial, (CallsIn.inRound l' (callsIn_wide.2 HVy.out)).mono ?_⟩
                        rintro e w12 ⟨rfl, hb12⟩
                        have Hbz := Lib.hid (bthen Hb10.out hb12)
                        have hI12 := colD_below HI.out Hbz.out
                        clear hb12 HVy
                        obtain ⟨v, hbx, ho, hB⟩ := hI12
                        obtain ⟨va, vc, rfl⟩ := own_shapeB ho
                        have HO := Lib.hid ho
                        have HBx := Lib.hid hbx
                        have HB := Lib.hid hB
                        have d0 := hbx.cell 0
                        have g0 := hbx.free 0
                        simp only [List.getElem?_cons_zero] at d0
                        have hbl8 := hbx.lt
                        have hfs := filter_snoc (dtP S d ck (S.hd i) by_) (pre.map (fun y => y.1)) x
                        rw [if_pos HP.out] at hfs
                        have HFs := Lib.hid hfs
                        have hDy := HDx.out
                        have HDy := Lib.hid hDy
                        generalize (pre.map (fun y => y.1)).filter (dtP S d ck (S.hd i) by_) = fl at *
                        have hb13 : Below w12.heap.size w12 (w12.alloc (.cells #[.string ⟨nmx.toArray⟩, .string ⟨vx.toArray⟩] 85)) := (Below.refl _ _).alloc (Nat.le_refl _) _
                        have HB13 := Lib.hid hb13
                        have hsz8 := HB.out.size
                        clear hbx ho hB hb13 hfs hDy k4
                        gi_wp2_with (first
                          | (gi_at_builtin; refine wpListIn_append_B etT (own_keepB HO.out HB13.out) (by simp; omega) (own_at (n := 1) (size := 2) (Blk.new w12 (attrC [(nmx, vx)]) 85) rfl (by omega)) (attrC_one _) (by omega) (by omega) rfl _ _ rfl rfl rfl ?_; intro v' w14 ho2 hg2 hv2;
                              obtain ⟨va', vc', rfl⟩ := own_shapeB ho2; have kb2 := (Blk.below HBx.out HB13.out).kept (hg2.block w4.heap.size (by simp; omega) (fun e => by
                                obtain ⟨cur, hc⟩ := own_ty HO.out e.symm
                                exact blk_ne hc HBx.out (by decide) rfl));
                              have d1 := kb2.cell 0; have e1 := kb2.free 0; simp only [List.getElem?_cons_zero] at d1; have HO2 := Lib.hid ho2; have HG2 := Lib.hid hg2; have HV2 := Lib.hid hv2; have HK2b := Lib.hid kb2; clear ho2 hg2 hv2 kb2)
                          | gi_in)
                        have hO1 := own_keepB HO.out HB13.out
                        have hg := HG2.out
                        have hw9 : (w12.alloc (.cells #[.string ⟨nmx.toArray⟩, .string ⟨vx.toArray⟩] 85)).heap.size = w12.heap.size + 1 := by simp
                        have kb3 := HK2b.out.set 0 (.slice va' (fl.length + 1) vc')
                        simp only [List.set_cons_zero] at kb3
                        have e1 : slB w4.heap.size w12 = (Value.slice va fl.length vc).ownBlock := by unfold slB; rw [d0]; rfl
                        have e3 : slB w4.heap.size (w14.setCell ⟨w4.heap.size, 0, none⟩ (.slice va' (fl.length + 1) vc')) = (Value.slice va' (fl.length + 1) vc').ownBlock := by
                          unfold slB
                          have := kb3.cell 0
                          simp only [List.getElem?_cons_zero] at this
                          rw [this]; rfl
                        have hne2 : ∀ k, (Value.slice va' (fl.length + 1) vc').ownBlock = some k → k ≠ w4.heap.size := fun k hk e => by
                          obtain ⟨cur, hc⟩ := own_ty HO2.out hk
                          subst e
                          exact blk_ne hc HK2b.out (by decide) rfl
                        refine ⟨(keeps_below Hbz.out).trans ((keeps_below HB13.out).trans (KeepsOthers.trans ⟨hg.size, fun k o hk ho => (hg.block k (Array.getElem?_eq_some_iff.1 hk).1 (fun e => by
                          obtain ⟨cur, hc⟩ := own_ty hO1 e.symm
                          rw [hc] at hk; cases hk; cases ho)).trans hk⟩ (KeepsOthers.setCell _ _ _))), (KpS.below hbl Hbz.out).trans ⟨?_, ?_, ?_⟩, ?_⟩
                        · have := hg.size
                          simp only [World.setCell, Array.size_modify]
                          omega
                        · intro k cs t fr hk h1 h2
                          rw [e1] at h2
                          have hkl := (Array.getElem?_eq_some_iff.1 hk).1
                          exact (Below.heap_setCell _ _ _ _ h1).trans ((hg.block k (by omega) (fun e => h2 e.symm)).trans ((HB13.out.block k hkl).trans hk))
                        · rw [e1, e3]
                          rcases HV2.out with e | e
                          · exact .inl e
                          · refine .inr (fun k hk => ?_)
                            rw [e] at hk
                            cases hk
                            refine ⟨by omega, ?_⟩
                            have := (HO2.out.lt _ e).2
                            simpa [World.setCell] using this
                        · simp only [List.map_append, List.map_cons, List.map_nil]
                          refine ⟨.slice va' (fl.length + 1) vc', kb3, ?_, ?_⟩
                          · rw [HFs.out, show (fl ++ [x]).length = fl.length + 1 by simp, List.map_append, attrC_app, List.map_singleton, HDy.out]
                            exact own_kB HO2.out (fun k hk => Below.heap_setCell _ _ _ _ (hne2 k hk))
                          · exact ((HB.out.alloc HB.out.size (.cells #[.string ⟨nmx.toArray⟩, .string ⟨vx.toArray⟩] 85)).grown hg (by have := HB.out.size; omega) (fun k e => (hO1.lt k e).1)).setCell (p := ⟨w4.heap.size, 0, none⟩) (Nat.le_refl _) _
                    · have eby : (S.hd x != by_) = true := by simpa using hby
                      as_aux_lemma =>
                        have HP := Lib.hid (show dtP S d ck (S.hd i) by_ x = false from by rw [HIr.out]; simp [h6, hby])
                        gi_wp2_with fail
                        exact ⟨keeps_below Hb10.out, KpS.below hbl Hb10.out, by simp only [List.map_append, List.map_cons, List.map_nil]; exact colD_no (colD_below HI.out Hb10.out) HP.out⟩
                  · have e6 : ((kx : Int) == 6) = false := by simp; omega
                    as_aux_lemma =>
                      have HP := Lib.hid (show dtP S d ck (S.hd i) by_ x = true from by rw [HIr.out]; simp [h0, h7, hn, ho, eb, h6])
                      have HVy := Lib.hid (HVx.out h0 _ Hb10.out)
                      gi_wp2_with fail
                      refine ⟨trivial, (CallsIn.inRound l' (callsIn_wide.2 HVy.out)).mono ?_⟩
                      rintro e w12 ⟨rfl, hb12⟩
                      have Hbz := Lib.hid (bthen Hb10.out hb12)
                      have hI12 := colD_below HI.out Hbz.out
                      clear hb12 HVy
                      obtain ⟨v, hbx, ho, hB⟩ := hI12
                      obtain ⟨va, vc, rfl⟩ := own_shapeB ho
                      have HO := Lib.hid ho
                      have HBx := Lib.hid hbx
                      have HB := Lib.hid hB
                      have d0 := hbx.cell 0
                      have g0 := hbx.free 0
                      simp only [List.getElem?_cons_zero] at d0
                      have hbl8 := hbx.lt
                      have hfs := filter_snoc (dtP S d ck (S.hd i) by_) (pre.map (fun y => y.1)) x
                      rw [if_pos HP.out] at hfs
                      have HFs := Lib.hid hfs
                      have hDy := HDx.out
                      have HDy := Lib.hid hDy
                      generalize (pre.map (fun y => y.1)).filter (dtP S d ck (S.hd i) by_) = fl at *
                      have hb13 : Below w12.heap.size w12 (w12.alloc (.cells #[.string ⟨nmx.toArray⟩, .string ⟨vx.toArray⟩] 85)) := (Below.refl _ _).alloc (Nat.le_refl _) _
                      have HB13 := Lib.hid hb13
                      have hsz8 := HB.out.size
                      clear hbx ho hB hb13 hfs hDy k4
                      gi_wp2_with (first
                        | (gi_at_builtin; refine wpListIn_append_B etT (own_keepB HO.out HB13.out) (by simp; omega) (own_at (n := 1) (size := 2) (Blk.new w12 (attrC [(nmx, vx)]) 85) rfl (by omega)) (attrC_one _) (by omega) (by omega) rfl _ _ rfl rfl rfl ?_; intro v' w14 ho2 hg2 hv2;
                            obtain ⟨va', vc', rfl⟩ := own_shapeB ho2; have kb2 := (Blk.below HBx.out HB13.out).kept (hg2.block w4.heap.size (by simp; omega) (fun e => by
                              obtain ⟨cur, hc⟩ := own_ty HO.out e.symm
                              exact blk_ne hc HBx.out (by decide) rfl));
                            have d1 := kb2.cell 0; have e1 := kb2.free 0; simp only [List.getElem?_cons_zero] at d1; have HO2 := Lib.hid ho2; have HG2 := Lib.hid hg2; have HV2 := Lib.hid hv2; have HK2b := Lib.hid kb2; clear ho2 hg2 hv2 kb2)
                        | gi_in)
                      have hO1 := own_keepB HO.out HB13.out
                      have hg := HG2.out
                      have hw9 : (w12.alloc (.cells #[.string ⟨nmx.toArray⟩, .string ⟨vx.toArray⟩] 85)).heap.size = w12.heap.size + 1 := by simp
                      have kb3 := HK2b.out.set 0 (.slice va' (fl.length + 1) vc')
                      simp only [List.set_cons_zero] at kb3
                      have e1 : slB w4.heap.size w12 = (Value.slice va fl.length vc).ownBlock := by unfold slB; rw [d0]; rfl
                      have e3 : slB w4.heap.size (w14.setCell ⟨w4.heap.size, 0, none⟩ (.slice va' (fl.length + 1) vc')) = (Value.slice va' (fl.length + 1) vc').ownBlock := by
                        unfold slB
                        have := kb3.cell 0
                        simp only [List.getElem?_cons_zero] at this
                        rw [this]; rfl
                      have hne2 : ∀ k, (Value.slice va' (fl.length + 1) vc').ownBlock = some k → k ≠ w4.heap.size := fun k hk e => by
                        obtain ⟨cur, hc⟩ := own_ty HO2.out hk
                        subst e
                        exact blk_ne hc HK2b.out (by decide) rfl
                      refine ⟨(keeps_below Hbz.out).trans ((keeps_below HB13.out).trans (KeepsOthers.trans ⟨hg.size, fun k o hk ho => (hg.block k (Array.getElem?_eq_some_iff.1 hk).1 (fun e => by
                        obtain ⟨cur, hc⟩ := own_ty hO1 e.symm
                        rw [hc] at hk; cases hk; cases ho)).trans hk⟩ (KeepsOthers.setCell _ _ _))), (KpS.below hbl Hbz.out).trans ⟨?_, ?_, ?_⟩, ?_⟩
                      · have := hg.size
                        simp only [World.setCell, Array.size_modify]
                        omega
                      · intro k cs t fr hk h1 h2
                        rw [e1] at h2
                        have hkl := (Array.getElem?_eq_some_iff.1 hk).1
                        exact (Below.heap_setCell _ _ _ _ h1).trans ((hg.block k (by omega) (fun e => h2 e.symm)).trans ((HB13.out.block k hkl).trans hk))
                      · rw [e1, e3]
                        rcases HV2.out with e | e
                        · exact .inl e
                        · refine .inr (fun k hk => ?_)
                          rw [e] at hk
                          cases hk
                          refine ⟨by omega, ?_⟩
                          have := (HO2.out.lt _ e).2
                          simpa [World.setCell] using this
                      · simp only [List.map_append, List.map_cons, List.map_nil]
                        refine ⟨.slice va' (fl.length + 1) vc', kb3, ?_, ?_⟩
                        · rw [HFs.out, show (fl ++ [x]).length = fl.length + 1 by simp, List.map_append, attrC_app, List.map_singleton, HDy.out]
                          exact own_kB HO2.out (fun k hk => Below.heap_setCell _ _ _ _ (hne2 k hk))
                        · exact ((HB.out.alloc HB.out.size (.cells #[.string ⟨nmx.toArray⟩, .string ⟨vx.toArray⟩] 85)).grown hg (by have := HB.out.size; omega) (fun k e => (hO1.lt k e).1)).setCell (p := ⟨w4.heap.size, 0, none⟩) (Nat.le_refl _) _
              · have eo : (owx != S.hd i) = true := by simpa using ho
                as_aux_lemma =>
                  refine reg_fX (fun _ _ => True) (fun k v => match k with | [] => v = .bool false | _ => v = .int .i64 owx) 22 (by kernel_rfl) (by kernel_rfl) (by kernel_rfl) (fun _ _ _ _ _ => trivial) trivial ?_
                  simp only [List.take_succ_cons, List.take_zero, List.drop_succ_cons, List.drop_zero]
                  repeat (first
                    | (refine RZ.m_held (by rfl) (by rfl) (fun K hK => ?_); go_big_quiet_step (fail); refine wpQuiet_nil ?_; refine hK.out _ ?_; clear hK K)
                    | (refine RZ.m_skip (by rfl) ?_; simp only [Act.put, List.setIfInBounds_toArray, List.set_cons_zero, List.set_cons_succ]))
                  refine RZ.m_call (by rfl) (by rfl) (fun w => by go_simp; exact ⟨rfl, rfl⟩) (⟨_, rfl⟩) (fun X wx hx => ?_) (fun v hv => ?_)
                  · refine (HHx.out _ (bthen Hb8.out hx.1)).mono ?_
                    rintro e wy ⟨rfl, hb⟩
                    exact ⟨_, rfl, rfl, bthen hx.1 hb, trivial⟩
                  obtain rfl : v = .bool false := hv
                  simp only [Act.put, List.setIfInBounds_toArray, List.set_cons_zero, List.set_cons_succ]
                  repeat (first
                    | (refine RZ.m_held (by rfl) (by rfl) (fun K hK => ?_); go_big_quiet_step (fail); refine wpQuiet_nil ?_; refine hK.out _ ?_; clear hK K)
                    | (refine RZ.m_skip (by rfl) ?_; simp only [Act.put, List.setIfInBounds_toArray, List.set_cons_zero, List.set_cons_succ]))
                  refine RZ.m_call (by rfl) (by rfl) (fun w => by go_simp; exact ⟨rfl, rfl⟩) (⟨_, rfl⟩) (fun X wx hx => ?_) (fun v hv => ?_)
                  · refine (HOx.out _ (bthen Hb8.out hx.1)).mono ?_
                    rintro e wy ⟨rfl, hb⟩
                    exact ⟨_, rfl, rfl, bthen hx.1 hb, trivial⟩
                  obtain rfl : v = .int .i64 owx := hv
                  simp only [Act.put, List.setIfInBounds_toArray, List.set_cons_zero, List.set_cons_succ]
                  repeat (first
                    | (refine RZ.m_held (by rfl) (by rfl) (fun K hK => ?_); go_big_quiet_step (fail); refine wpQuiet_nil ?_; refine hK.out _ ?_; clear hK K)
                    | (refine RZ.m_skip (by rfl) ?_; simp only [Act.put, List.setIfInBounds_toArray, List.set_cons_zero, List.set_cons_succ]))
                  refine RZ.m_nil ?_
                  intro w9 hb9 _
                  have Hb9 := Lib.hid (bthen Hb8.out (show Below w8.heap.size w8 w9 from hb9))
                  clear y2 y3 hne hb9 k2 k3 HHx HOx
                  have HP := Lib.hid (show dtP S d ck (S.hd i) by_ x = false from by rw [HIr.out]; simp [ho])
                  gi_wp2_with fail
                  exact ⟨keeps_below Hb9.out, KpS.below hbl Hb9.out, by simp only [List.map_append, List.map_cons, List.map_nil]; exact colD_no (colD_below HI.out Hb9.out) HP.out⟩
  case done =>
    rintro Dn ys W hDn hys hI hK
    rw [hys] at hI
    obtain ⟨v, hbx, ho, hB⟩ := hI
    obtain ⟨va, vc, rfl⟩ := own_shapeB ho
    have d0 := hbx.cell 0
    simp only [List.getElem?_cons_zero] at d0
    have HO := Lib.hid ho
    have HB := Lib.hid hB
    have HKD := Lib.hid hK
    have hDl : Dn < W.heap.size := (Array.getElem?_eq_some_iff.1 hK).1
    have hsz := hB.size
    clear hbx ho hB hK HSq hys
    go_wp2_with fail
    refine one_mark HKD.out ?_
    refine ⟨.slice va ((wlk K (128 - d i) i).filter (dtP S d ck (S.hd i) by_)).length vc, ?_, .slice va ((wlk K (128 - d i) i).filter (dtP S d ck (S.hd i) by_)).length vc, rfl, ?_, below_put _ (bthen HB4.out HB.out) (by have := HB4.out.size; have := HS5.out; omega) hDl⟩
    · simp [results, Tryz.f42, go_sem]
    · refine own_low (own_kB HO.out (fun k hk => World.putObj_heap_other (fun e => ?_))) HB4.out.size
      obtain ⟨cur, hc⟩ := own_ty HO.out hk
      rw [e, HKD.out] at hc
      cases hc
end
end Go.Proofs.YtacdbnhnhdlmpaaGreatDoor.W
end
