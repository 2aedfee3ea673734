/- Texts joined: Fcs Mvk. -/
import Derived.Test.YtacdbnhnhdlmpaaGreatDoorFE39
import Derived.BigQuiet
set_option maxRecDepth 100000
set_option maxHeartbeats 40000000
set_option linter.unusedVariables false
set_option linter.unusedSimpArgs false
section
namespace Go.Proofs.YtacdbnhnhdlmpaaGreatDoor.W
open Go.RowKit
def sDisabled : List UInt8 := [100, 105, 115, 97, 98, 108, 101, 100]
theorem has_any {B R : Nat} {S : Tr} {sv fv : Value} {w : World} {K d} (h : TAt B R S sv fv w) (hL : Lk S K d) (i : Nat) (n : Nd) (hi : S.at i = some n) (hl : n.attrs.length ≤ 1000) (x : List UInt8) :
    Calls Tryz.prog 81 #[.pointer (some ⟨R, 0, none⟩), .int .i64 (S.hd i), .string ⟨x.toArray⟩] w fun e w' => e = .returned (.bool (attV n x).isSome) ∧ Below w.heap.size w w' := by
  have HA := Lib.hid (attr_at h hL i n hi hl x)
  generalize attV n x = t at *
  clear h hi hl
  go_enter Tryz.func81, Tryz.ntmps81
  go_wp2_with fail
  refine HA.out.mono ?_
  rintro e w1 ⟨rfl, hb1⟩
  go_wp2_with fail
  go_ret
  exact ⟨rfl, hb1⟩
theorem focusable_fd {B R : Nat} {S : Tr} {sv fv : Value} {w : World} {K d} (h : TAt B R S sv fv w) (hL : Lk S K d) (i : Nat) (n : Nd) (hi : S.at i = some n) (hl : n.attrs.length ≤ 1000) (hk : kindN n = 1 ∨ kindN n = 2) (hd : attV n sDisabled = none) :
    Calls Tryz.prog 98 #[.pointer (some ⟨R, 0, none⟩), .int .i64 (S.hd i)] w fun e w' => e = .returned (.bool true) ∧ Below w.heap.size w w' := by
  have HN := Lib.hid (node_some h (S.hd i) (hd_ok hL hi).1 (hd_ix hL hi) (at_slot hi) hl)
  have HK := Lib.hid (fun wx (hb : Below w.heap.size w wx) => kind_any (h.below hb) hL i n hi hl)
  have HH := Lib.hid (fun wx (hb : Below w.heap.size w wx) => has_any (h.below hb) hL i n hi hl sDisabled)
  rw [hd] at HH
  simp only [Option.isSome_none] at HH
  generalize kindN n = k at *
  obtain ⟨nk, nm, nav, nal, nda, np, nf, nl, npv, nx⟩ := n
  simp only at HN hl
  have e0 : ((k : Int) != 0) = true := by simp; omega
  have e5 : ((k : Int) != 5) = true := by simp; omega
  clear h hi hd hk
  go_enter Tryz.func98, Tryz.ntmps98
  go_wp2_with fail
  refine HN.out.mono ?_
  rintro e w1 ⟨v', rfl, ho, hb1⟩
  obtain ⟨va, vc, rfl⟩ := own_shapeB ho
  clear ho
  simp only [ndC, strV]
  have hb2 := hb1.alloc hb1.size (.cells #[.int .i64 nk, .string ⟨nm.toArray⟩, .slice va nal.length vc, .string ⟨nda.toArray⟩, .int .i64 np, .int .i64 nf, .int .i64 nl, .int .i64 npv, .int .i64 nx] 135)
  clear hb1
  go_wp2_with fail
  refine (HK.out _ hb2).mono ?_
  rintro e w2 ⟨rfl, hb3⟩
  have hb4 := bthen hb2 hb3
  clear hb3 hb2
  go_wp2_with fail
  refine (HH.out _ hb4).mono ?_
  rintro e w3 ⟨rfl, hb5⟩
  have HB := Lib.hid (bthen hb4 hb5)
  clear hb4 hb5
  go_wp2_with fail
  go_ret
  exact ⟨rfl, HB.out⟩
structure FcOk (B : Nat) (w0 : World) (R : Nat) (O : Ob) (hd : Int) : Prop where
  pos : 1 ≤ hd
  foc : ∀ w, O.P w → Below B w0 w → Calls Tryz.prog 98 #[.pointer (some ⟨R, 0, none⟩), .int .i64 hd] w fun e w' => e = .returned (.bool true) ∧ Below w.heap.size w w'
  root : ∃ r : Int, (∀ w, O.P w → w.cell? ⟨R, 5, none⟩ = some (.int .i64 r)) ∧ ∀ w, O.P w → Below B w0 w → Calls Tryz.prog 97 #[.pointer (some ⟨R, 0, none⟩), .int .i64 r, .int .i64 hd] w fun e w' => e = .returned (.bool true) ∧ Below w.heap.size w w'
section
variable {B : Nat} {w0 w : World} {Q R : Nat} {foc hd : Int} {v : List UInt8} {l : List Ob} {O : Ob} {F : FT}
theorem FsAt.focC (h : FsAt B w0 Q foc hd v l F w) : w.cell? ⟨Q, 1, none⟩ = some (.int .i64 foc) := by
  obtain ⟨fa, X, u, r, h1, h2, h3, h4, h5⟩ := h
  have hk : Blk w Q [fa, .int .i64 foc] 30 := h5.head
  exact hk.cell 1
theorem FsAt.setFoc (h : FsAt B w0 Q foc hd v l F w) (x : Int) : FsAt B w0 Q x hd v l F (w.setCell ⟨Q, 1, none⟩ (.int .i64 x)) ∧ w.frozen? ⟨Q, 1, none⟩ = false := by
  obtain ⟨fa, X, u, r, h1, h2, h3, h4, h5⟩ := h
  have hk : Blk w Q [fa, .int .i64 foc] 30 := h5.head
  exact ⟨⟨fa, X, u, r, h1, h2, h3, h4, All.setBk [] h5 1 (.int .i64 x)⟩, hk.free 1⟩
set_option maxRecDepth 100000 in
set_option maxHeartbeats 8000000 in
theorem focused_one (h : FsAt B w0 Q hd hd v l F w) (hO : O ∈ l) (hF : FcOk B w0 R O hd) :
    Calls Tryz.prog 46 #[.pointer (some ⟨Q, 0, none⟩), .pointer (some ⟨R, 0, none⟩)] w fun e w' => e = .returned (.int .i64 hd) ∧ Below w.heap.size w w' := by
  obtain ⟨r, hr, hc⟩ := hF.root
  have HC := Lib.hid (fun wx (hb : Below w.heap.size w wx) => hc wx ((h.still hb).rest.P O hO) (h.still hb).rest.below)
  have HFo := Lib.hid (fun wx (hb : Below w.heap.size w wx) => hF.foc wx ((h.still hb).rest.P O hO) (h.still hb).rest.below)
  have HQ := Lib.hid (fun wx (hb : Below w.heap.size w wx) => (show wx.cell? ⟨Q, 1, none⟩ = some (.int .i64 hd) ∧ wx.cell? ⟨R, 5, none⟩ = some (.int .i64 r) from ⟨(h.still hb).focC, hr wx ((h.still hb).rest.P O hO)⟩))
  have e0 : (hd != 0) = true := by have := hF.pos; simp; omega
  obtain ⟨q1, r5⟩ := HQ.out w (Below.refl _ _)
  clear h hF hr hc
  go_enter Tryz.func46, Tryz.ntmps46
  go_upto_region 1 with fail
  have hne := stb_ne w
  have x1 := fun (x : InS (StB w)) => (HQ.out x.w x.h).1
  have x5 := fun (x : InS (StB w)) => (HQ.out x.w x.h).2
  refine reg_f (fun _ _ => True) (fun _ v => v = .bool true) 25 (by kernel_rfl) (by kernel_rfl) (fun _ _ _ _ _ => trivial) trivial ?_
  simp only [List.take_succ_cons, List.take_zero, List.drop_succ_cons, List.drop_zero]
  repeat (first
    | (refine RV.m_held (by rfl) (by rfl) (fun K hK => ?_); go_big_quiet_step (fail); refine wpQuiet_nil ?_; refine hK.out _ ?_; clear hK K)
    | (refine RV.m_skip (by rfl) ?_; simp only [Act.put, List.setIfInBounds_toArray, List.set_cons_zero, List.set_cons_succ]))
  refine RV.m_call (by rfl) (by rfl) (fun w => by go_simp; exact ⟨rfl, rfl⟩) (⟨_, rfl⟩) (fun X wx hx => ?_) (fun v hv => ?_)
  · refine (HC.out wx hx.1).mono ?_
    rintro e w2 ⟨rfl, hb2⟩
    exact ⟨_, rfl, rfl, bthen hx.1 hb2, trivial⟩
  obtain rfl := hv
  simp only [Act.put, List.setIfInBounds_toArray, List.set_cons_zero, List.set_cons_succ]
  repeat (first
    | (refine RV.m_held (by rfl) (by rfl) (fun K hK => ?_); go_big_quiet_step (fail); refine wpQuiet_nil ?_; refine hK.out _ ?_; clear hK K)
    | (refine RV.m_skip (by rfl) ?_; simp only [Act.put, List.setIfInBounds_toArray, List.set_cons_zero, List.set_cons_succ]))
  refine RV.m_call (by rfl) (by rfl) (fun w => by go_simp; exact ⟨rfl, rfl⟩) (⟨_, rfl⟩) (fun X wx hx => ?_) (fun v hv => ?_)
  · refine (HFo.out wx hx.1).mono ?_
    rintro e w2 ⟨rfl, hb2⟩
    exact ⟨_, rfl, rfl, bthen hx.1 hb2, trivial⟩
  obtain rfl := hv
  simp only [Act.put, List.setIfInBounds_toArray, List.set_cons_zero, List.set_cons_succ]
  repeat (first
    | (refine RV.m_held (by rfl) (by rfl) (fun K hK => ?_); go_big_quiet_step (fail); refine wpQuiet_nil ?_; refine hK.out _ ?_; clear hK K)
    | (refine RV.m_skip (by rfl) ?_; simp only [Act.put, List.setIfInBounds_toArray, List.set_cons_zero, List.set_cons_succ]))
  refine RV.m_nil ?_
  intro w6 hb6 _
  have HB6 := Lib.hid hb6
  obtain ⟨q1, r5⟩ := HQ.out _ hb6
  clear hb6 x1 x5 hne
  go_wp2_with fail
  go_ret
  exact ⟨rfl, HB6.out⟩
set_option maxRecDepth 100000 in
set_option maxHeartbeats 8000000 in
theorem setFocus_one (h : FsAt B w0 Q foc hd v l F w) (hO : O ∈ l) (hF : FcOk B w0 R O hd) :
    Calls Tryz.prog 47 #[.pointer (some ⟨Q, 0, none⟩), .pointer (some ⟨R, 0, none⟩), .int .i64 hd] w fun e w' => e = .returned (.int .i64 0) ∧ FsAt B w0 Q hd hd v l F w' := by
  obtain ⟨r, hr, hc⟩ := hF.root
  have HC := Lib.hid (hc w (h.rest.P O hO) h.rest.below)
  have HFo := Lib.hid (fun wx (hb : Below w.heap.size w wx) => hF.foc wx ((h.still hb).rest.P O hO) (h.still hb).rest.below)
  have r5 := hr w (h.rest.P O hO)
  have e0 : (hd != 0) = true := by have := hF.pos; simp; omega
  have H := Lib.hid h
  clear h hF hr hc
  go_enter Tryz.func47, Tryz.ntmps47
  go_wp2_with fail
  refine HC.out.mono ?_
  rintro e w2 ⟨rfl, hb2⟩
  go_wp2_with fail
  refine (HFo.out _ hb2).mono ?_
  rintro e w3 ⟨rfl, hb3⟩
  obtain ⟨h9, f1⟩ := FsAt.setFoc (H.out.still (bthen hb2 hb3)) hd
  have q1 := (H.out.still (bthen hb2 hb3)).focC
  have H9 := Lib.hid h9
  clear h9 hb2 hb3 HC HFo
  go_wp2_with fail
  go_ret
  exact ⟨rfl, H9.out⟩
end
end Go.Proofs.YtacdbnhnhdlmpaaGreatDoor.W
end
section
namespace Go.Proofs.YtacdbnhnhdlmpaaGreatDoor.W
open Go.RowKit
def sLeft : List UInt8 := [76, 101, 102, 116]
def sRight : List UInt8 := [82, 105, 103, 104, 116]
def sHome : List UInt8 := [72, 111, 109, 101]
def sEnd : List UInt8 := [69, 110, 100]
def movTo (F : FT) (key : List UInt8) : Int :=
  if key = sEnd then (nL F.val : Int) else if key = sLeft ∧ F.st < F.en then (F.st : Int) else if key = sRight ∧ F.st < F.en then (F.en : Int)
  else if key = sLeft then (F.st : Int) - 1 else if key = sRight then (F.st : Int) + 1 else 0
def actV (k h f : Int) : Value := .agg #[.int .i64 k, .int .i64 h, .int .i64 f]
theorem res_ac {fn : Func} {j : Nat} (h : fn.results = #[.cell j 91]) {tmps : Array Value} {w : World} {r : Nat} {k h0 f : Int} (hp : tmps.getD j undef = .pointer (some ⟨r, 0, none⟩)) (hk : Blk w r [.int .i64 k, .int .i64 h0, .int .i64 f] 91) :
    (results fn tmps).run Tryz.prog w = .ok (actV k h0 f) w := by
  have c0 := hk.cell 0
  have c1 := hk.cell 1
  have c2 := hk.cell 2
  simp only [List.getElem?_cons_succ, List.getElem?_cons_zero] at c0 c1 c2
  rw [Array.getD_eq_getD_getElem?] at hp
  simp [results, h, hp, go_sem, actV, c0, c1, c2]
section
variable {B : Nat} {w0 w : World} {Q R k : Nat} {foc hd : Int} {v : List UInt8} {l : List Ob} {O : Ob} {F : FT} {N : Nat}
theorem sel_le (F : FT) (a b : Int) : (F.sel a b).st ≤ (F.sel a b).en ∧ (F.sel a b).en ≤ nL F.val := by
  unfold FT.sel
  simp only
  omega
theorem FsAt.setB {r : Nat} {cs : List Value} {ty : TypeId} (h : FsAt B w0 Q foc hd v (bk r cs ty :: l) F w) (j : Nat) (u : Value) : FsAt B w0 Q foc hd v (bk r (cs.set j u) ty :: l) F (w.setCell ⟨r, j, none⟩ u) := by
  obtain ⟨fa, X, u1, r1, h1, h2, h3, h4, h5⟩ := h
  refine ⟨fa, X, u1, r1, h1, h2, h3, h4, ?_⟩
  rw [← List.append_assoc] at h5 ⊢
  exact All.setBk _ h5 j u
theorem FsAt.tailO {o : Ob} (h : FsAt B w0 Q foc hd v (o :: l) F w) : FsAt B w0 Q foc hd v l F w := by
  obtain ⟨fa, X, u, r, h1, h2, h3, h4, h5⟩ := h
  refine ⟨fa, X, u, r, h1, h2, h3, h4, ?_⟩
  rw [← List.append_assoc] at h5 ⊢
  exact (h5.perm List.perm_middle).tail
set_option maxRecDepth 100000 in
set_option maxHeartbeats 16000000 in
theorem move_one (h : FsAt B w0 Q foc hd v l F w) (hO : O ∈ l) (hF : FdOk B w0 R O hd k v) (hk : k = 1 ∨ k = 2) (hv : v.length ≤ 10000000) (hok : FOk N F) (hN : N ≤ 900000) (key : List UInt8) (hkey : key = sLeft ∨ key = sRight ∨ key = sHome ∨ key = sEnd) :
    Calls Tryz.prog 100 #[.pointer (some ⟨Q, 0, none⟩), .pointer (some ⟨R, 0, none⟩), .int .i64 hd, .string ⟨key.toArray⟩] w fun e w' => e = .returned (if (F.sel (movTo F key) (movTo F key)).st ≠ F.st ∨ (F.sel (movTo F key) (movTo F key)).en ≠ F.en then actV 2 hd 0 else actV 0 0 0) ∧ FsAt B w0 Q foc hd v l (F.sel (movTo F key) (movTo F key)) w' := by
  have hn := hok.n
  have hle := hok.le
  have hin := hok.in_
  have hnn := nL_le F.val
  have h1 := h.new (o := bk w.heap.size [.int .i64 0, .int .i64 0, .int .i64 0] 91) (Blk.new w [.int .i64 0, .int .i64 0, .int .i64 0] 91) ((Below.refl _ _).alloc (Nat.le_refl _) _) (fun k hk => Nat.le_of_eq hk.symm)
  have hO1 : O ∈ bk w.heap.size [.int .i64 0, .int .i64 0, .int .i64 0] 91 :: l := List.mem_cons_of_mem _ hO
  have HSe := Lib.hid (selection_one h1 hO1 hF hk (by omega) hin (by omega))
  have HVa := Lib.hid (fun wx (hb : Below (w.alloc (.cells #[.int .i64 0, .int .i64 0, .int .i64 0] 91)).heap.size (w.alloc (.cells #[.int .i64 0, .int .i64 0, .int .i64 0] 91)) wx) => value_one (h1.still hb) hO1 hF hk)
  have HSl := Lib.hid (fun a wx (hb : Below (w.alloc (.cells #[.int .i64 0, .int .i64 0, .int .i64 0] 91)).heap.size (w.alloc (.cells #[.int .i64 0, .int .i64 0, .int .i64 0] 91)) wx) => select_one (h1.still hb) hO1 hF hk hv (by omega) a a)
  have HS2 := Lib.hid (fun a wx (h5 : FsAt B w0 Q foc hd v (bk w.heap.size [.int .i64 0, .int .i64 0, .int .i64 0] 91 :: l) (F.sel a a) wx) => selection_one h5 hO1 hF hk (by have := sel_le F a a; show (F.sel a a).st ≤ nL F.val; omega) (by have := sel_le F a a; show (F.sel a a).en ≤ nL F.val; omega) (show F.val.length ≤ 10000000 by omega))
  have HLe := Lib.hid (fun wx => len_n F.val wx (by omega))
  clear h hO hF hk h1
  generalize hw1 : w.alloc (.cells #[.int .i64 0, .int .i64 0, .int .i64 0] 91) = w1 at *
  have HW1 := Lib.hid hw1
  clear hw1
  rcases hkey with rfl | rfl | rfl | rfl
  · by_cases hlt : F.st < F.en
    · have hq : (decide (F.st < F.en)) = true := by simp; omega
      have hm : movTo F sLeft = (F.st : Int) := by unfold movTo; rw [if_neg (by decide), if_pos ⟨rfl, hlt⟩]
      rw [hm]
      have HSl := Lib.hid (HSl.out ((F.st : Int)))
      have HS2 := Lib.hid (HS2.out ((F.st : Int)))
      clear hm
      obtain ⟨F2, hF2⟩ : ∃ F2, F.sel ((F.st : Int)) ((F.st : Int)) = F2 := ⟨_, rfl⟩
      rw [hF2] at HSl HS2 ⊢
      clear hF2
      obtain ⟨av, hav⟩ : ∃ av, (if F2.st ≠ F.st ∨ F2.en ≠ F.en then actV 2 hd 0 else actV 0 0 0) = av := ⟨_, rfl⟩
      rw [hav]
      have HAv := Lib.hid hav
      clear hav
      unfold sLeft
      go_enter Tryz.func100, Tryz.ntmps100
      go_upto_region 1 with fail
      rw [HW1.out]
      go_wp2_with fail
      refine HSe.out.mono ?_
      rintro e w2 ⟨rfl, hb2⟩
      go_wp2_with fail
      refine (HVa.out _ hb2).mono ?_
      rintro e w3 ⟨rfl, hb3⟩
      have hb13 := bthen hb2 hb3
      go_wp2_with fail
      refine (HSl.out _ hb13).mono ?_
      rintro e w5 ⟨rfl, h5⟩
      have HS3 := Lib.hid (HS2.out _ h5)
      have H5 := Lib.hid h5
      clear h5 hb2 hb3 hb13 HSl HS2 HSe HVa HLe
      go_wp2_with fail
      refine HS3.out.mono ?_
      rintro e w6 ⟨rfl, hb6⟩
      have h6 := H5.out.still hb6
      have kb : Blk w6 w.heap.size [.int .i64 0, .int .i64 0, .int .i64 0] 91 := h6.rest.head
      have z0 := kb.cell 0
      have z1 := kb.cell 1
      have z2 := kb.cell 2
      have f0 := kb.free 0
      have f1 := kb.free 1
      have f2 := kb.free 2
      simp only [List.getElem?_cons_succ, List.getElem?_cons_zero] at z0 z1 z2
      have H6 := Lib.hid h6
      clear h6 kb hb6 H5 HS3 hle hin
      generalize w.heap.size = r at *
      by_cases hs : F2.st ≠ F.st
      · have e1 : ((F2.st : Int) != (F.st : Int)) = true := by simp; omega
        have HA := Lib.hid (show av = actV 2 hd 0 from by rw [← HAv.out, if_pos (.inl hs)])
        have h9 := ((H6.out.setB 0 (.int .i64 2)).setB 1 (.int .i64 hd)).setB 2 (.int .i64 0)
        have H9 := Lib.hid h9
        clear h9 hs HAv
        go_wp2_with fail
        refine bodyPost_ret (res_ac (j := 8) (by rfl) (by rfl) (show Blk _ r [.int .i64 2, .int .i64 hd, .int .i64 0] _ from H9.out.rest.head)) rfl ?_
        rw [HA.out]
        exact ⟨rfl, H9.out.tailO⟩
      · have e1 : ((F2.st : Int) != (F.st : Int)) = false := by simp; omega
        by_cases he : F2.en ≠ F.en
        · have e2 : ((F2.en : Int) != (F.en : Int)) = true := by simp; omega
          have HA := Lib.hid (show av = actV 2 hd 0 from by rw [← HAv.out, if_pos (.inr he)])
          have h9 := ((H6.out.setB 0 (.int .i64 2)).setB 1 (.int .i64 hd)).setB 2 (.int .i64 0)
          have H9 := Lib.hid h9
          clear h9 hs he HAv
          go_wp2_with fail
          refine bodyPost_ret (res_ac (j := 8) (by rfl) (by rfl) (show Blk _ r [.int .i64 2, .int .i64 hd, .int .i64 0] _ from H9.out.rest.head)) rfl ?_
          rw [HA.out]
          exact ⟨rfl, H9.out.tailO⟩
        · have e2 : ((F2.en : Int) != (F.en : Int)) = false := by simp; omega
          have HA := Lib.hid (show av = actV 0 0 0 from by rw [← HAv.out, if_neg (fun q => q.elim hs he)])
          have h9 := ((H6.out.setB 0 (.int .i64 0)).setB 1 (.int .i64 0)).setB 2 (.int .i64 0)
          have H9 := Lib.hid h9
          clear h9 hs he HAv
          go_wp2_with fail
          refine bodyPost_ret (res_ac (j := 8) (by rfl) (by rfl) (show Blk _ r [.int .i64 0, .int .i64 0, .int .i64 0] _ from H9.out.rest.head)) rfl ?_
          rw [HA.out]
          exact ⟨rfl, H9.out.tailO⟩
    · have hq : (decide (F.st < F.en)) = false := by simp; omega
      have hm : movTo F sLeft = (F.st : Int) - 1 := by unfold movTo; rw [if_neg (by decide), if_neg (fun q => hlt q.2), if_neg (fun q => absurd q.1 (by decide)), if_pos rfl]
      rw [hm]
      have HSl := Lib.hid (HSl.out ((F.st : Int) - 1))
      have HS2 := Lib.hid (HS2.out ((F.st : Int) - 1))
      clear hm
      obtain ⟨F2, hF2⟩ : ∃ F2, F.sel ((F.st : Int) - 1) ((F.st : Int) - 1) = F2 := ⟨_, rfl⟩
      rw [hF2] at HSl HS2 ⊢
      clear hF2
      obtain ⟨av, hav⟩ : ∃ av, (if F2.st ≠ F.st ∨ F2.en ≠ F.en then actV 2 hd 0 else actV 0 0 0) = av := ⟨_, rfl⟩
      rw [hav]
      have HAv := Lib.hid hav
      clear hav
      unfold sLeft
      go_enter Tryz.func100, Tryz.ntmps100
      go_upto_region 1 with fail
      rw [HW1.out]
      go_wp2_with fail
      refine HSe.out.mono ?_
      rintro e w2 ⟨rfl, hb2⟩
      go_wp2_with fail
      refine (HVa.out _ hb2).mono ?_
      rintro e w3 ⟨rfl, hb3⟩
      have hb13 := bthen hb2 hb3
      go_wp2_with fail
      refine (HSl.out _ hb13).mono ?_
      rintro e w5 ⟨rfl, h5⟩
      have HS3 := Lib.hid (HS2.out _ h5)
      have H5 := Lib.hid h5
      clear h5 hb2 hb3 hb13 HSl HS2 HSe HVa HLe
      go_wp2_with fail
      refine HS3.out.mono ?_
      rintro e w6 ⟨rfl, hb6⟩
      have h6 := H5.out.still hb6
      have kb : Blk w6 w.heap.size [.int .i64 0, .int .i64 0, .int .i64 0] 91 := h6.rest.head
      have z0 := kb.cell 0
      have z1 := kb.cell 1
      have z2 := kb.cell 2
      have f0 := kb.free 0
      have f1 := kb.free 1
      have f2 := kb.free 2
      simp only [List.getElem?_cons_succ, List.getElem?_cons_zero] at z0 z1 z2
      have H6 := Lib.hid h6
      clear h6 kb hb6 H5 HS3 hle hin
      generalize w.heap.size = r at *
      by_cases hs : F2.st ≠ F.st
      · have e1 : ((F2.st : Int) != (F.st : Int)) = true := by simp; omega
        have HA := Lib.hid (show av = actV 2 hd 0 from by rw [← HAv.out, if_pos (.inl hs)])
        have h9 := ((H6.out.setB 0 (.int .i64 2)).setB 1 (.int .i64 hd)).setB 2 (.int .i64 0)
        have H9 := Lib.hid h9
        clear h9 hs HAv
        go_wp2_with fail
        refine bodyPost_ret (res_ac (j := 8) (by rfl) (by rfl) (show Blk _ r [.int .i64 2, .int .i64 hd, .int .i64 0] _ from H9.out.rest.head)) rfl ?_
        rw [HA.out]
        exact ⟨rfl, H9.out.tailO⟩
      · have e1 : ((F2.st : Int) != (F.st : Int)) = false := by simp; omega
        by_cases he : F2.en ≠ F.en
        · have e2 : ((F2.en : Int) != (F.en : Int)) = true := by simp; omega
          have HA := Lib.hid (show av = actV 2 hd 0 from by rw [← HAv.out, if_pos (.inr he)])
          have h9 := ((H6.out.setB 0 (.int .i64 2)).setB 1 (.int .i64 hd)).setB 2 (.int .i64 0)
          have H9 := Lib.hid h9
          clear h9 hs he HAv
          go_wp2_with fail
          refine bodyPost_ret (res_ac (j := 8) (by rfl) (by rfl) (show Blk _ r [.int .i64 2, .int .i64 hd, .int .i64 0] _ from H9.out.rest.head)) rfl ?_
          rw [HA.out]
          exact ⟨rfl, H9.out.tailO⟩
        · have e2 : ((F2.en : Int) != (F.en : Int)) = false := by simp; omega
          have HA := Lib.hid (show av = actV 0 0 0 from by rw [← HAv.out, if_neg (fun q => q.elim hs he)])
          have h9 := ((H6.out.setB 0 (.int .i64 0)).setB 1 (.int .i64 0)).setB 2 (.int .i64 0)
          have H9 := Lib.hid h9
          clear h9 hs he HAv
          go_wp2_with fail
          refine bodyPost_ret (res_ac (j := 8) (by rfl) (by rfl) (show Blk _ r [.int .i64 0, .int .i64 0, .int .i64 0] _ from H9.out.rest.head)) rfl ?_
          rw [HA.out]
          exact ⟨rfl, H9.out.tailO⟩
  · by_cases hlt : F.st < F.en
    · have hq : (decide (F.st < F.en)) = true := by simp; omega
      have hm : movTo F sRight = (F.en : Int) := by unfold movTo; rw [if_neg (by decide), if_neg (fun q => absurd q.1 (by decide)), if_pos ⟨rfl, hlt⟩]
      rw [hm]
      have HSl := Lib.hid (HSl.out ((F.en : Int)))
      have HS2 := Lib.hid (HS2.out ((F.en : Int)))
      clear hm
      obtain ⟨F2, hF2⟩ : ∃ F2, F.sel ((F.en : Int)) ((F.en : Int)) = F2 := ⟨_, rfl⟩
      rw [hF2] at HSl HS2 ⊢
      clear hF2
      obtain ⟨av, hav⟩ : ∃ av, (if F2.st ≠ F.st ∨ F2.en ≠ F.en then actV 2 hd 0 else actV 0 0 0) = av := ⟨_, rfl⟩
      rw [hav]
      have HAv := Lib.hid hav
      clear hav
      unfold sRight
      go_enter Tryz.func100, Tryz.ntmps100
      go_upto_region 1 with fail
      rw [HW1.out]
      go_wp2_with fail
      refine HSe.out.mono ?_
      rintro e w2 ⟨rfl, hb2⟩
      go_wp2_with fail
      refine (HVa.out _ hb2).mono ?_
      rintro e w3 ⟨rfl, hb3⟩
      have hb13 := bthen hb2 hb3
      go_wp2_with fail
      refine (HSl.out _ hb13).mono ?_
      rintro e w5 ⟨rfl, h5⟩
      have HS3 := Lib.hid (HS2.out _ h5)
      have H5 := Lib.hid h5
      clear h5 hb2 hb3 hb13 HSl HS2 HSe HVa HLe
      go_wp2_with fail
      refine HS3.out.mono ?_
      rintro e w6 ⟨rfl, hb6⟩
      have h6 := H5.out.still hb6
      have kb : Blk w6 w.heap.size [.int .i64 0, .int .i64 0, .int .i64 0] 91 := h6.rest.head
      have z0 := kb.cell 0
      have z1 := kb.cell 1
      have z2 := kb.cell 2
      have f0 := kb.free 0
      have f1 := kb.free 1
      have f2 := kb.free 2
      simp only [List.getElem?_cons_succ, List.getElem?_cons_zero] at z0 z1 z2
      have H6 := Lib.hid h6
      clear h6 kb hb6 H5 HS3 hle hin
      generalize w.heap.size = r at *
      by_cases hs : F2.st ≠ F.st
      · have e1 : ((F2.st : Int) != (F.st : Int)) = true := by simp; omega
        have HA := Lib.hid (show av = actV 2 hd 0 from by rw [← HAv.out, if_pos (.inl hs)])
        have h9 := ((H6.out.setB 0 (.int .i64 2)).setB 1 (.int .i64 hd)).setB 2 (.int .i64 0)
        have H9 := Lib.hid h9
        clear h9 hs HAv
        go_wp2_with fail
        refine bodyPost_ret (res_ac (j := 8) (by rfl) (by rfl) (show Blk _ r [.int .i64 2, .int .i64 hd, .int .i64 0] _ from H9.out.rest.head)) rfl ?_
        rw [HA.out]
        exact ⟨rfl, H9.out.tailO⟩
      · have e1 : ((F2.st : Int) != (F.st : Int)) = false := by simp; omega
        by_cases he : F2.en ≠ F.en
        · have e2 : ((F2.en : Int) != (F.en : Int)) = true := by simp; omega
          have HA := Lib.hid (show av = actV 2 hd 0 from by rw [← HAv.out, if_pos (.inr he)])
          have h9 := ((H6.out.setB 0 (.int .i64 2)).setB 1 (.int .i64 hd)).setB 2 (.int .i64 0)
          have H9 := Lib.hid h9
          clear h9 hs he HAv
          go_wp2_with fail
          refine bodyPost_ret (res_ac (j := 8) (by rfl) (by rfl) (show Blk _ r [.int .i64 2, .int .i64 hd, .int .i64 0] _ from H9.out.rest.head)) rfl ?_
          rw [HA.out]
          exact ⟨rfl, H9.out.tailO⟩
        · have e2 : ((F2.en : Int) != (F.en : Int)) = false := by simp; omega
          have HA := Lib.hid (show av = actV 0 0 0 from by rw [← HAv.out, if_neg (fun q => q.elim hs he)])
          have h9 := ((H6.out.setB 0 (.int .i64 0)).setB 1 (.int .i64 0)).setB 2 (.int .i64 0)
          have H9 := Lib.hid h9
          clear h9 hs he HAv
          go_wp2_with fail
          refine bodyPost_ret (res_ac (j := 8) (by rfl) (by rfl) (show Blk _ r [.int .i64 0, .int .i64 0, .int .i64 0] _ from H9.out.rest.head)) rfl ?_
          rw [HA.out]
          exact ⟨rfl, H9.out.tailO⟩
    · have hq : (decide (F.st < F.en)) = false := by simp; omega
      have hm : movTo F sRight = (F.st : Int) + 1 := by unfold movTo; rw [if_neg (by decide), if_neg (fun q => absurd q.1 (by decide)), if_neg (fun q => hlt q.2), if_neg (by decide), if_pos rfl]
      rw [hm]
      have HSl := Lib.hid (HSl.out ((F.st : Int) + 1))
      have HS2 := Lib.hid (HS2.out ((F.st : Int) + 1))
      clear hm
      obtain ⟨F2, hF2⟩ : ∃ F2, F.sel ((F.st : Int) + 1) ((F.st : Int) + 1) = F2 := ⟨_, rfl⟩
      rw [hF2] at HSl HS2 ⊢
      clear hF2
      obtain ⟨av, hav⟩ : ∃ av, (if F2.st ≠ F.st ∨ F2.en ≠ F.en then actV 2 hd 0 else actV 0 0 0) = av := ⟨_, rfl⟩
      rw [hav]
      have HAv := Lib.hid hav
      clear hav
      unfold sRight
      go_enter Tryz.func100, Tryz.ntmps100
      go_upto_region 1 with fail
      rw [HW1.out]
      go_wp2_with fail
      refine HSe.out.mono ?_
      rintro e w2 ⟨rfl, hb2⟩
      go_wp2_with fail
      refine (HVa.out _ hb2).mono ?_
      rintro e w3 ⟨rfl, hb3⟩
      have hb13 := bthen hb2 hb3
      go_wp2_with fail
      refine (HSl.out _ hb13).mono ?_
      rintro e w5 ⟨rfl, h5⟩
      have HS3 := Lib.hid (HS2.out _ h5)
      have H5 := Lib.hid h5
      clear h5 hb2 hb3 hb13 HSl HS2 HSe HVa HLe
      go_wp2_with fail
      refine HS3.out.mono ?_
      rintro e w6 ⟨rfl, hb6⟩
      have h6 := H5.out.still hb6
      have kb : Blk w6 w.heap.size [.int .i64 0, .int .i64 0, .int .i64 0] 91 := h6.rest.head
      have z0 := kb.cell 0
      have z1 := kb.cell 1
      have z2 := kb.cell 2
      have f0 := kb.free 0
      have f1 := kb.free 1
      have f2 := kb.free 2
      simp only [List.getElem?_cons_succ, List.getElem?_cons_zero] at z0 z1 z2
      have H6 := Lib.hid h6
      clear h6 kb hb6 H5 HS3 hle hin
      generalize w.heap.size = r at *
      by_cases hs : F2.st ≠ F.st
      · have e1 : ((F2.st : Int) != (F.st : Int)) = true := by simp; omega
        have HA := Lib.hid (show av = actV 2 hd 0 from by rw [← HAv.out, if_pos (.inl hs)])
        have h9 := ((H6.out.setB 0 (.int .i64 2)).setB 1 (.int .i64 hd)).setB 2 (.int .i64 0)
        have H9 := Lib.hid h9
        clear h9 hs HAv
        go_wp2_with fail
        refine bodyPost_ret (res_ac (j := 8) (by rfl) (by rfl) (show Blk _ r [.int .i64 2, .int .i64 hd, .int .i64 0] _ from H9.out.rest.head)) rfl ?_
        rw [HA.out]
        exact ⟨rfl, H9.out.tailO⟩
      · have e1 : ((F2.st : Int) != (F.st : Int)) = false := by simp; omega
        by_cases he : F2.en ≠ F.en
        · have e2 : ((F2.en : Int) != (F.en : Int)) = true := by simp; omega
          have HA := Lib.hid (show av = actV 2 hd 0 from by rw [← HAv.out, if_pos (.inr he)])
          have h9 := ((H6.out.setB 0 (.int .i64 2)).setB 1 (.int .i64 hd)).setB 2 (.int .i64 0)
          have H9 := Lib.hid h9
          clear h9 hs he HAv
          go_wp2_with fail
          refine bodyPost_ret (res_ac (j := 8) (by rfl) (by rfl) (show Blk _ r [.int .i64 2, .int .i64 hd, .int .i64 0] _ from H9.out.rest.head)) rfl ?_
          rw [HA.out]
          exact ⟨rfl, H9.out.tailO⟩
        · have e2 : ((F2.en : Int) != (F.en : Int)) = false := by simp; omega
          have HA := Lib.hid (show av = actV 0 0 0 from by rw [← HAv.out, if_neg (fun q => q.elim hs he)])
          have h9 := ((H6.out.setB 0 (.int .i64 0)).setB 1 (.int .i64 0)).setB 2 (.int .i64 0)
          have H9 := Lib.hid h9
          clear h9 hs he HAv
          go_wp2_with fail
          refine bodyPost_ret (res_ac (j := 8) (by rfl) (by rfl) (show Blk _ r [.int .i64 0, .int .i64 0, .int .i64 0] _ from H9.out.rest.head)) rfl ?_
          rw [HA.out]
          exact ⟨rfl, H9.out.tailO⟩
  · have hm : movTo F sHome = 0 := by unfold movTo; rw [if_neg (by decide), if_neg (fun q => absurd q.1 (by decide)), if_neg (fun q => absurd q.1 (by decide)), if_neg (by decide), if_neg (by decide)]
    rw [hm]
    have HSl := Lib.hid (HSl.out (0))
    have HS2 := Lib.hid (HS2.out (0))
    clear hm
    obtain ⟨F2, hF2⟩ : ∃ F2, F.sel (0) (0) = F2 := ⟨_, rfl⟩
    rw [hF2] at HSl HS2 ⊢
    clear hF2
    obtain ⟨av, hav⟩ : ∃ av, (if F2.st ≠ F.st ∨ F2.en ≠ F.en then actV 2 hd 0 else actV 0 0 0) = av := ⟨_, rfl⟩
    rw [hav]
    have HAv := Lib.hid hav
    clear hav
    unfold sHome
    go_enter Tryz.func100, Tryz.ntmps100
    go_upto_region 1 with fail
    rw [HW1.out]
    go_wp2_with fail
    refine HSe.out.mono ?_
    rintro e w2 ⟨rfl, hb2⟩
    go_wp2_with fail
    refine (HVa.out _ hb2).mono ?_
    rintro e w3 ⟨rfl, hb3⟩
    have hb13 := bthen hb2 hb3
    go_wp2_with fail
    refine (HSl.out _ hb13).mono ?_
    rintro e w5 ⟨rfl, h5⟩
    have HS3 := Lib.hid (HS2.out _ h5)
    have H5 := Lib.hid h5
    clear h5 hb2 hb3 hb13 HSl HS2 HSe HVa HLe
    go_wp2_with fail
    refine HS3.out.mono ?_
    rintro e w6 ⟨rfl, hb6⟩
    have h6 := H5.out.still hb6
    have kb : Blk w6 w.heap.size [.int .i64 0, .int .i64 0, .int .i64 0] 91 := h6.rest.head
    have z0 := kb.cell 0
    have z1 := kb.cell 1
    have z2 := kb.cell 2
    have f0 := kb.free 0
    have f1 := kb.free 1
    have f2 := kb.free 2
    simp only [List.getElem?_cons_succ, List.getElem?_cons_zero] at z0 z1 z2
    have H6 := Lib.hid h6
    clear h6 kb hb6 H5 HS3 hle hin
    generalize w.heap.size = r at *
    by_cases hs : F2.st ≠ F.st
    · have e1 : ((F2.st : Int) != (F.st : Int)) = true := by simp; omega
      have HA := Lib.hid (show av = actV 2 hd 0 from by rw [← HAv.out, if_pos (.inl hs)])
      have h9 := ((H6.out.setB 0 (.int .i64 2)).setB 1 (.int .i64 hd)).setB 2 (.int .i64 0)
      have H9 := Lib.hid h9
      clear h9 hs HAv
      go_wp2_with fail
      refine bodyPost_ret (res_ac (j := 8) (by rfl) (by rfl) (show Blk _ r [.int .i64 2, .int .i64 hd, .int .i64 0] _ from H9.out.rest.head)) rfl ?_
      rw [HA.out]
      exact ⟨rfl, H9.out.tailO⟩
    · have e1 : ((F2.st : Int) != (F.st : Int)) = false := by simp; omega
      by_cases he : F2.en ≠ F.en
      · have e2 : ((F2.en : Int) != (F.en : Int)) = true := by simp; omega
        have HA := Lib.hid (show av = actV 2 hd 0 from by rw [← HAv.out, if_pos (.inr he)])
        have h9 := ((H6.out.setB 0 (.int .i64 2)).setB 1 (.int .i64 hd)).setB 2 (.int .i64 0)
        have H9 := Lib.hid h9
        clear h9 hs he HAv
        go_wp2_with fail
        refine bodyPost_ret (res_ac (j := 8) (by rfl) (by rfl) (show Blk _ r [.int .i64 2, .int .i64 hd, .int .i64 0] _ from H9.out.rest.head)) rfl ?_
        rw [HA.out]
        exact ⟨rfl, H9.out.tailO⟩
      · have e2 : ((F2.en : Int) != (F.en : Int)) = false := by simp; omega
        have HA := Lib.hid (show av = actV 0 0 0 from by rw [← HAv.out, if_neg (fun q => q.elim hs he)])
        have h9 := ((H6.out.setB 0 (.int .i64 0)).setB 1 (.int .i64 0)).setB 2 (.int .i64 0)
        have H9 := Lib.hid h9
        clear h9 hs he HAv
        go_wp2_with fail
        refine bodyPost_ret (res_ac (j := 8) (by rfl) (by rfl) (show Blk _ r [.int .i64 0, .int .i64 0, .int .i64 0] _ from H9.out.rest.head)) rfl ?_
        rw [HA.out]
        exact ⟨rfl, H9.out.tailO⟩
  · have hm : movTo F sEnd = (nL F.val : Int) := by unfold movTo; rw [if_pos rfl]
    rw [hm]
    have HSl := Lib.hid (HSl.out ((nL F.val : Int)))
    have HS2 := Lib.hid (HS2.out ((nL F.val : Int)))
    clear hm
    obtain ⟨F2, hF2⟩ : ∃ F2, F.sel ((nL F.val : Int)) ((nL F.val : Int)) = F2 := ⟨_, rfl⟩
    rw [hF2] at HSl HS2 ⊢
    clear hF2
    obtain ⟨av, hav⟩ : ∃ av, (if F2.st ≠ F.st ∨ F2.en ≠ F.en then actV 2 hd 0 else actV 0 0 0) = av := ⟨_, rfl⟩
    rw [hav]
    have HAv := Lib.hid hav
    clear hav
    unfold sEnd
    go_enter Tryz.func100, Tryz.ntmps100
    go_upto_region 1 with fail
    rw [HW1.out]
    go_wp2_with fail
    refine HSe.out.mono ?_
    rintro e w2 ⟨rfl, hb2⟩
    go_wp2_with fail
    refine (HVa.out _ hb2).mono ?_
    rintro e w3 ⟨rfl, hb3⟩
    have hb13 := bthen hb2 hb3
    go_wp2_with fail
    refine (HLe.out _).mono ?_
    rintro e w4 ⟨rfl, hb4⟩
    have hb13 := bthen hb13 hb4
    go_wp2_with fail
    refine (HSl.out _ hb13).mono ?_
    rintro e w5 ⟨rfl, h5⟩
    have HS3 := Lib.hid (HS2.out _ h5)
    have H5 := Lib.hid h5
    clear h5 hb2 hb3 hb13 HSl HS2 HSe HVa HLe
    go_wp2_with fail
    refine HS3.out.mono ?_
    rintro e w6 ⟨rfl, hb6⟩
    have h6 := H5.out.still hb6
    have kb : Blk w6 w.heap.size [.int .i64 0, .int .i64 0, .int .i64 0] 91 := h6.rest.head
    have z0 := kb.cell 0
    have z1 := kb.cell 1
    have z2 := kb.cell 2
    have f0 := kb.free 0
    have f1 := kb.free 1
    have f2 := kb.free 2
    simp only [List.getElem?_cons_succ, List.getElem?_cons_zero] at z0 z1 z2
    have H6 := Lib.hid h6
    clear h6 kb hb6 H5 HS3 hle hin
    generalize w.heap.size = r at *
    by_cases hs : F2.st ≠ F.st
    · have e1 : ((F2.st : Int) != (F.st : Int)) = true := by simp; omega
      have HA := Lib.hid (show av = actV 2 hd 0 from by rw [← HAv.out, if_pos (.inl hs)])
      have h9 := ((H6.out.setB 0 (.int .i64 2)).setB 1 (.int .i64 hd)).setB 2 (.int .i64 0)
      have H9 := Lib.hid h9
      clear h9 hs HAv
      go_wp2_with fail
      refine bodyPost_ret (res_ac (j := 8) (by rfl) (by rfl) (show Blk _ r [.int .i64 2, .int .i64 hd, .int .i64 0] _ from H9.out.rest.head)) rfl ?_
      rw [HA.out]
      exact ⟨rfl, H9.out.tailO⟩
    · have e1 : ((F2.st : Int) != (F.st : Int)) = false := by simp; omega
      by_cases he : F2.en ≠ F.en
      · have e2 : ((F2.en : Int) != (F.en : Int)) = true := by simp; omega
        have HA := Lib.hid (show av = actV 2 hd 0 from by rw [← HAv.out, if_pos (.inr he)])
        have h9 := ((H6.out.setB 0 (.int .i64 2)).setB 1 (.int .i64 hd)).setB 2 (.int .i64 0)
        have H9 := Lib.hid h9
        clear h9 hs he HAv
        go_wp2_with fail
        refine bodyPost_ret (res_ac (j := 8) (by rfl) (by rfl) (show Blk _ r [.int .i64 2, .int .i64 hd, .int .i64 0] _ from H9.out.rest.head)) rfl ?_
        rw [HA.out]
        exact ⟨rfl, H9.out.tailO⟩
      · have e2 : ((F2.en : Int) != (F.en : Int)) = false := by simp; omega
        have HA := Lib.hid (show av = actV 0 0 0 from by rw [← HAv.out, if_neg (fun q => q.elim hs he)])
        have h9 := ((H6.out.setB 0 (.int .i64 0)).setB 1 (.int .i64 0)).setB 2 (.int .i64 0)
        have H9 := Lib.hid h9
        clear h9 hs he HAv
        go_wp2_with fail
        refine bodyPost_ret (res_ac (j := 8) (by rfl) (by rfl) (show Blk _ r [.int .i64 0, .int .i64 0, .int .i64 0] _ from H9.out.rest.head)) rfl ?_
        rw [HA.out]
        exact ⟨rfl, H9.out.tailO⟩
end
end Go.Proofs.YtacdbnhnhdlmpaaGreatDoor.W
end
