/- Texts joined: Key Clk. -/
import Derived.Test.YtacdbnhnhdlmpaaGreatDoorFH10
set_option maxRecDepth 100000
set_option maxHeartbeats 40000000
set_option linter.unusedVariables false
set_option linter.unusedSimpArgs false
section
namespace Go.Proofs.YtacdbnhnhdlmpaaGreatDoor.W
open Go.RowKit
theorem submit_no {w : World} {R : Nat} {hd : Int} (ho : ∀ wx, Below w.heap.size w wx → Calls Tryz.prog 32 #[.pointer (some ⟨R, 0, none⟩), .int .i64 hd] wx fun e w' => e = .returned (.int .i64 0) ∧ Below wx.heap.size wx w') :
    Calls Tryz.prog 96 #[.pointer (some ⟨R, 0, none⟩), .int .i64 hd] w fun e w' => e = .returned (actV 0 0 0) ∧ Below w.heap.size w w' := by
  have hb1 : Below w.heap.size w (w.alloc (.cells #[.int .i64 0, .int .i64 0, .int .i64 0] 91)) := (Below.refl _ _).alloc (Nat.le_refl _) _
  have k1 := Blk.new w [.int .i64 0, .int .i64 0, .int .i64 0] 91
  have HO := Lib.hid (ho _ hb1)
  have HB1 := Lib.hid hb1
  clear ho hb1
  go_enter Tryz.func96, Tryz.ntmps96
  go_wp2_with fail
  refine HO.out.mono ?_
  rintro e w2 ⟨rfl, hb2⟩
  have kb := k1.below hb2
  have z0 := kb.cell 0
  have z1 := kb.cell 1
  have z2 := kb.cell 2
  have f0 := kb.free 0
  have f1 := kb.free 1
  have f2 := kb.free 2
  simp only [List.getElem?_cons_succ, List.getElem?_cons_zero] at z0 z1 z2
  have HK := Lib.hid kb
  have HB := Lib.hid (bthen HB1.out hb2)
  clear kb k1 hb2 HO HB1
  go_wp2_with fail
  refine bodyPost_ret (res_ac (j := 4) (by rfl) (by rfl) (show Blk _ w.heap.size [.int .i64 0, .int .i64 0, .int .i64 0] _ from ((HK.out.set 0 (.int .i64 0)).set 1 (.int .i64 0)).set 2 (.int .i64 0))) rfl ⟨rfl, ?_⟩
  exact ((HB.out.setCell (p := ⟨w.heap.size, 0, none⟩) (Nat.le_refl _) _).setCell (p := ⟨w.heap.size, 1, none⟩) (Nat.le_refl _) _).setCell (p := ⟨w.heap.size, 2, none⟩) (Nat.le_refl _) _
end Go.Proofs.YtacdbnhnhdlmpaaGreatDoor.W
end
section
namespace Go.Proofs.YtacdbnhnhdlmpaaGreatDoor.W
open Go.RowKit
theorem root_sub {S : Tr} {K : Nat → List Nat} {d : Nat → Nat} (D : DcOk S K d) : ∀ (m i : Nat), d i = m → (S.at i).isSome = true → subB S d 0 i = true := by
  intro m
  induction m using Nat.strongRecOn with
  | ind m ih =>
    intro i hm hx
    by_cases h0 : i = 0
    · subst h0; rw [sub_top D.lk hx D.ok.nodoc]; rfl
    · obtain ⟨q, hq⟩ := D.att i hx h0
      have hd := D.lk.dep q i hq
      rw [sub_kid D.lk hq, ih (d q) (by omega) q rfl (D.lk.kin q i hq).1]
      simp
theorem fs_newbk {B : Nat} {w0 w : World} {Q : Nat} {fa : Value} {foc : Int} {X : List FX} {l : List Ob} (h : All B w0 (fsL Q fa foc X ++ l) w) (g : Nat) (hg : w.heap.size = g) (cs : List Value) (t : TypeId) : All B w0 (fsL Q fa foc X ++ bk g cs t :: l) (w.alloc (.cells cs.toArray t)) :=
  (h.newBkA g hg cs t).perm List.perm_middle.symm
theorem fs_dropbk {B : Nat} {w0 w : World} {Q : Nat} {fa : Value} {foc : Int} {X : List FX} {l : List Ob} {o : Ob} (h : All B w0 (fsL Q fa foc X ++ o :: l) w) : All B w0 (fsL Q fa foc X ++ l) w :=
  h.sub (List.Sublist.append_left (List.sublist_cons_self _ _) _)
theorem fs_setFoc {B : Nat} {w0 w : World} {Q : Nat} {fa : Value} {foc : Int} {X : List FX} {l : List Ob} (h : All B w0 (fsL Q fa foc X ++ l) w) (x : Int) : All B w0 (fsL Q fa x X ++ l) (w.setCell ⟨Q, 1, none⟩ (.int .i64 x)) ∧ w.frozen? ⟨Q, 1, none⟩ = false := by
  have hk : Blk w Q [fa, .int .i64 foc] 30 := h.head
  exact ⟨All.setBk [] h 1 (.int .i64 x), hk.free 1⟩
theorem submit_any {w : World} {R : Nat} {hd ow : Int} (ho : ∀ wx, Below w.heap.size w wx → Calls Tryz.prog 32 #[.pointer (some ⟨R, 0, none⟩), .int .i64 hd] wx fun e w' => e = .returned (.int .i64 ow) ∧ Below wx.heap.size wx w') :
    Calls Tryz.prog 96 #[.pointer (some ⟨R, 0, none⟩), .int .i64 hd] w fun e w' => e = .returned (if ow = 0 then actV 0 0 0 else actV 5 hd ow) ∧ Below w.heap.size w w' := by
  by_cases h0 : ow = 0
  · subst h0
    rw [if_pos rfl]
    exact submit_no ho
  rw [if_neg h0]
  have e0 : (ow != 0) = true := by simpa using h0
  have hb1 : Below w.heap.size w (w.alloc (.cells #[.int .i64 0, .int .i64 0, .int .i64 0] 91)) := (Below.refl _ _).alloc (Nat.le_refl _) _
  have k1 := Blk.new w [.int .i64 0, .int .i64 0, .int .i64 0] 91
  have HO := Lib.hid (ho _ hb1)
  have HB1 := Lib.hid hb1
  clear ho hb1 h0
  go_enter Tryz.func96, Tryz.ntmps96
  go_wp2_with fail
  refine HO.out.mono ?_
  rintro e w2 ⟨rfl, hb2⟩
  have kb := k1.below hb2
  have z0 := kb.cell 0
  have z1 := kb.cell 1
  have z2 := kb.cell 2
  have f0 := kb.free 0
  have f1 := kb.free 1
  have f2 := kb.free 2
  simp only [List.getElem?_cons_succ, List.getElem?_cons_zero] at z0 z1 z2
  have HK := Lib.hid kb
  have HB := Lib.hid (bthen HB1.out hb2)
  clear kb k1 hb2 HO HB1
  go_wp2_with fail
  refine bodyPost_ret (res_ac (j := 4) (by rfl) (by rfl) (show Blk _ w.heap.size [.int .i64 5, .int .i64 hd, .int .i64 ow] _ from ((HK.out.set 0 (.int .i64 5)).set 1 (.int .i64 hd)).set 2 (.int .i64 ow))) rfl ⟨rfl, ?_⟩
  exact ((HB.out.setCell (p := ⟨w.heap.size, 0, none⟩) (Nat.le_refl _) _).setCell (p := ⟨w.heap.size, 1, none⟩) (Nat.le_refl _) _).setCell (p := ⟨w.heap.size, 2, none⟩) (Nat.le_refl _) _
section
variable {B R Q : Nat} {S : Tr} {sv fv fa : Value} {w w0 : World} {K : Nat → List Nat} {d : Nat → Nat} {X : List FX} {foc : Int} {l : List Ob}
set_option maxRecDepth 100000 in
set_option maxHeartbeats 8000000 in
theorem setFocus_any (D : DcOk S K d) (h : All B w0 (fsL Q fa foc X ++ l) w) (hO : trO R S sv fv ∈ l) (i : Nat) (n : Nd) (hi : S.at i = some n) (hk : kindN n = 1 ∨ kindN n = 2) (hd : attV n sDisabled = none) :
    Calls Tryz.prog 47 #[.pointer (some ⟨Q, 0, none⟩), .pointer (some ⟨R, 0, none⟩), .int .i64 (S.hd i)] w fun e w' => e = .returned (.int .i64 0) ∧ All B w0 (fsL Q fa (S.hd i) X ++ l) w' := by
  have hT : TAt 0 R S sv fv w := h.P _ (List.mem_append_right _ hO)
  obtain ⟨n0, hn0⟩ := Option.isSome_iff_exists.1 D.live0
  have hli : (S.at i).isSome = true := by rw [hi]; rfl
  have hsb := root_sub D _ i rfl hli
  unfold subB at hsb
  have HC := Lib.hid (show Calls Tryz.prog 97 #[.pointer (some ⟨R, 0, none⟩), .int .i64 (S.hd 0), .int .i64 (S.hd i)] w fun e w' => e = .returned (.bool true) ∧ Below w.heap.size w w' from by
    obtain ⟨g, cap, rfl⟩ := slots_some hT (by have := at_lt hi; omega)
    have := contains_any hT D.lk 0 i n0 n hn0 hi
    rwa [hsb] at this)
  have HFo := Lib.hid (fun wx (hb : Below w.heap.size w wx) => focusable_fd (hT.below hb) D.lk i n hi (D.al i n hi) hk hd)
  have r5 : w.cell? ⟨R, 5, none⟩ = some (.int .i64 (S.hd 0)) := by
    have := hT.blk.cell 5
    simp only [List.getElem?_cons_succ, List.getElem?_cons_zero] at this
    rw [this, D.ok.root]
  have e0 : (S.hd i != 0) = true := by have := (hd_ok D.lk hi).2; simp; omega
  have H := Lib.hid h
  generalize S.hd i = hd at *
  generalize S.hd 0 = h0 at *
  clear h hT hi hn0 hsb hli D hO
  go_enter Tryz.func47, Tryz.ntmps47
  go_wp2_with fail
  refine HC.out.mono ?_
  rintro e w2 ⟨rfl, hb2⟩
  go_wp2_with fail
  refine (HFo.out _ hb2).mono ?_
  rintro e w3 ⟨rfl, hb3⟩
  have hA3 := H.out.still (bthen hb2 hb3)
  have q1 := (show Blk w3 Q [fa, .int .i64 foc] 30 from hA3.head).cell 1
  simp only [List.getElem?_cons_succ, List.getElem?_cons_zero] at q1
  obtain ⟨h9, f1⟩ := fs_setFoc hA3 hd
  have H9 := Lib.hid h9
  clear h9 hb2 hb3 HC HFo hA3
  go_wp2_with fail
  go_ret
  exact ⟨rfl, H9.out⟩
end
def ClkP (S : Tr) (R : Nat) (sv fv : Value) (hd : Int) (u : Int → Option Bool) (a b c : Int) (F : Int → Int) (G : List FX → List FX) : Prop :=
  ∀ (B : Nat) (w0 : World) (Q : Nat) (fa : Value) (foc : Int) (X : List FX) (l : List Ob) (w : World), X.length ≤ 90000 → uX X = u → All B w0 (fsL Q fa foc X ++ l) w → trO R S sv fv ∈ l →
    Calls Tryz.prog 45 #[.pointer (some ⟨Q, 0, none⟩), .pointer (some ⟨R, 0, none⟩), .int .i64 hd] w fun e w' => e = .returned (actV a b c) ∧ ∃ fa', All B w0 (fsL Q fa' (F foc) (G X) ++ l) w'
section
variable {R : Nat} {S : Tr} {sv fv : Value} {K : Nat → List Nat} {d : Nat → Nat} {u : Int → Option Bool}
set_option maxRecDepth 100000 in
set_option maxHeartbeats 16000000 in
theorem click_none (D : DcOk S K d) (i : Nat) (n : Nd) (hi : S.at i = some n) (hk : kindN n = 0 ∨ (attV n sDisabled).isSome = true) :
    ClkP S R sv fv (S.hd i) u 0 0 0 id id := by
  intro B w0 Q fa foc X l w hX hu h hOm
  have hT : TAt 0 R S sv fv w := h.P _ (List.mem_append_right _ hOm)
  have h1 := fs_newbk h w.heap.size rfl [.int .i64 0, .int .i64 0, .int .i64 0] 91
  have hb1 : Below w.heap.size w (w.alloc (.cells #[.int .i64 0, .int .i64 0, .int .i64 0] 91)) := (Below.refl _ _).alloc (Nat.le_refl _) _
  have hO1 : trO R S sv fv ∈ bk w.heap.size [.int .i64 0, .int .i64 0, .int .i64 0] 91 :: l := List.mem_cons_of_mem _ hOm
  have HKi := Lib.hid (kind_any (hT.below hb1) D.lk i n hi (D.al i n hi))
  have HHa := Lib.hid (fun wx (hb : Below w.heap.size w wx) => has_any (hT.below hb) D.lk i n hi (D.al i n hi) sDisabled)
  have HB1 := Lib.hid hb1
  have H1 := Lib.hid h1
  have HDk := Lib.hid D
  generalize kindN n = kx at *
  generalize (attV n sDisabled).isSome = dis at *
  clear h h1 hb1 hT hOm hi D hu hO1
  by_cases h0 : kx = 0
  · have e0 : ((kx : Int) == 0) = true := by simp [h0]
    clear HHa hk h0
    go_enter Tryz.func45, Tryz.ntmps45
    go_wp2_with fail
    refine HKi.out.mono ?_
    rintro e w2 ⟨rfl, hb2⟩
    have HB2 := Lib.hid hb2
    clear hb2 HKi
    have hA2 := H1.out.still HB2.out
    have HA2 := Lib.hid hA2
    clear hA2 H1
    have kb : Blk w2 w.heap.size [.int .i64 0, .int .i64 0, .int .i64 0] 91 := HA2.out.mid
    have z0 := kb.cell 0
    have z1 := kb.cell 1
    have z2 := kb.cell 2
    have f0 := kb.free 0
    have f1 := kb.free 1
    have f2 := kb.free 2
    simp only [List.getElem?_cons_succ, List.getElem?_cons_zero] at z0 z1 z2
    clear kb 
    go_wp2_with fail
    have hA1 := All.setBk (fsL Q fa foc X) HA2.out 0 (.int .i64 (0))
    have hA2 := All.setBk (fsL Q fa foc X) hA1 1 (.int .i64 (0))
    have hA3 := All.setBk (fsL Q fa foc X) hA2 2 (.int .i64 (0))
    refine bodyPost_ret (res_ac (j := 6) (by rfl) (by rfl) (show Blk _ w.heap.size [.int .i64 (0), .int .i64 (0), .int .i64 (0)] _ from hA3.mid)) rfl ⟨rfl, ?_⟩
    exact ⟨_, fs_dropbk hA3⟩
  · have e0 : ((kx : Int) == 0) = false := by simp; omega
    obtain rfl : dis = true := by rcases hk with e | e; exact absurd e h0; exact e
    clear hk h0
    go_enter Tryz.func45, Tryz.ntmps45
    go_wp2_with fail
    refine HKi.out.mono ?_
    rintro e w2 ⟨rfl, hb2⟩
    have HB2 := Lib.hid hb2
    clear hb2 HKi
    have HH2 := Lib.hid (HHa.out _ (bthen HB1.out HB2.out))
    clear HHa
    go_wp2_with fail
    refine HH2.out.mono ?_
    rintro e w3 ⟨rfl, hb3⟩
    have HB3 := Lib.hid (bthen HB2.out hb3)
    clear hb3 HB2
    have hA3 := H1.out.still HB3.out
    have HA3 := Lib.hid hA3
    clear hA3 H1
    have kb : Blk w3 w.heap.size [.int .i64 0, .int .i64 0, .int .i64 0] 91 := HA3.out.mid
    have z0 := kb.cell 0
    have z1 := kb.cell 1
    have z2 := kb.cell 2
    have f0 := kb.free 0
    have f1 := kb.free 1
    have f2 := kb.free 2
    simp only [List.getElem?_cons_succ, List.getElem?_cons_zero] at z0 z1 z2
    clear kb 
    go_wp2_with fail
    have hA1 := All.setBk (fsL Q fa foc X) HA3.out 0 (.int .i64 (0))
    have hA2 := All.setBk (fsL Q fa foc X) hA1 1 (.int .i64 (0))
    have hA3 := All.setBk (fsL Q fa foc X) hA2 2 (.int .i64 (0))
    refine bodyPost_ret (res_ac (j := 6) (by rfl) (by rfl) (show Blk _ w.heap.size [.int .i64 (0), .int .i64 (0), .int .i64 (0)] _ from hA3.mid)) rfl ⟨rfl, ?_⟩
    exact ⟨_, fs_dropbk hA3⟩
set_option maxRecDepth 100000 in
set_option maxHeartbeats 16000000 in
theorem click_ck (D : DcOk S K d) (i : Nat) (n : Nd) (hi : S.at i = some n) (hdis : attV n sDisabled = none) (hk : kindN n = 3 ∨ (kindN n = 4 ∧ chkd (gH S K d) (rdH S) (atH S) u (S.hd i) = false)) :
    ClkP S R sv fv (S.hd i) u 1 (S.hd i) 0 id (fun X => setX (gH S K d) (rdH S) X (S.hd i) (!chkd (gH S K d) (rdH S) (atH S) u (S.hd i))) := by
  intro B w0 Q fa foc X l w hX hu h hOm
  have hT : TAt 0 R S sv fv w := h.P _ (List.mem_append_right _ hOm)
  have h1 := fs_newbk h w.heap.size rfl [.int .i64 0, .int .i64 0, .int .i64 0] 91
  have hb1 : Below w.heap.size w (w.alloc (.cells #[.int .i64 0, .int .i64 0, .int .i64 0] 91)) := (Below.refl _ _).alloc (Nat.le_refl _) _
  have hO1 : trO R S sv fv ∈ bk w.heap.size [.int .i64 0, .int .i64 0, .int .i64 0] 91 :: l := List.mem_cons_of_mem _ hOm
  have HKi := Lib.hid (kind_any (hT.below hb1) D.lk i n hi (D.al i n hi))
  have HHa := Lib.hid (fun wx (hb : Below w.heap.size w wx) => has_any (hT.below hb) D.lk i n hi (D.al i n hi) sDisabled)
  have HB1 := Lib.hid hb1
  have H1 := Lib.hid h1
  have HDk := Lib.hid D
  have HCh := Lib.hid (fun wx (hb : Below (w.alloc (.cells #[.int .i64 0, .int .i64 0, .int .i64 0] 91)).heap.size (w.alloc (.cells #[.int .i64 0, .int .i64 0, .int .i64 0] 91)) wx) => checked_any D (h1.still hb) hO1 i n hi (by omega))
  rw [hdis] at HHa
  simp only [Option.isSome_none] at HHa
  have hisk : isCk n = true := by unfold isCk; rcases hk with e | ⟨e, _⟩ <;> rw [e] <;> rfl
  rw [hu, hisk, if_pos rfl, if_pos rfl] at HCh
  have HSc := Lib.hid (fun wx (hb : Below (w.alloc (.cells #[.int .i64 0, .int .i64 0, .int .i64 0] 91)).heap.size (w.alloc (.cells #[.int .i64 0, .int .i64 0, .int .i64 0] 91)) wx) (on : Bool) => setChecked_yes D (h1.still hb) hO1 i n hi hisk on hX)
  simp only []
  generalize chkd (gH S K d) (rdH S) (atH S) u (S.hd i) = cv at *
  generalize kindN n = kx at *
  generalize setX (gH S K d) (rdH S) X (S.hd i) = sx at *
  generalize S.hd i = hd at *
  have e0 : ((kx : Int) == 0) = false := by simp; omega
  clear h h1 hb1 hT hOm hi D hu hO1 hisk hdis HDk H1
  rcases hk with rfl | ⟨rfl, rfl⟩
  · go_enter Tryz.func45, Tryz.ntmps45
    go_wp2_with fail
    refine HKi.out.mono ?_
    rintro e w2 ⟨rfl, hb2⟩
    have HB2 := Lib.hid hb2
    clear hb2 HKi
    have HH2 := Lib.hid (HHa.out _ (bthen HB1.out HB2.out))
    clear HHa
    go_wp2_with fail
    refine HH2.out.mono ?_
    rintro e w3 ⟨rfl, hb3⟩
    have HB3 := Lib.hid (bthen HB2.out hb3)
    clear hb3 HB2
    have HC3 := Lib.hid (HCh.out _ HB3.out)
    clear HCh
    go_wp2_with fail
    refine HC3.out.mono ?_
    rintro e w4 ⟨rfl, hb4⟩
    have HB4 := Lib.hid (bthen HB3.out hb4)
    clear hb4 HB3 HC3
    have HS4 := Lib.hid (HSc.out _ HB4.out (!cv))
    clear HSc
    go_wp2_with fail
    refine HS4.out.mono ?_
    rintro e w5 ⟨rfl, fa5, hA5⟩
    have HA5 := Lib.hid hA5
    clear hA5 HS4
    have kb : Blk w5 w.heap.size [.int .i64 0, .int .i64 0, .int .i64 0] 91 := HA5.out.mid
    have z0 := kb.cell 0
    have z1 := kb.cell 1
    have z2 := kb.cell 2
    have f0 := kb.free 0
    have f1 := kb.free 1
    have f2 := kb.free 2
    simp only [List.getElem?_cons_succ, List.getElem?_cons_zero] at z0 z1 z2
    clear kb 
    go_wp2_with fail
    have hA1 := All.setBk (fsL Q fa5 foc (sx (!cv))) HA5.out 0 (.int .i64 (1))
    have hA2 := All.setBk (fsL Q fa5 foc (sx (!cv))) hA1 1 (.int .i64 (hd))
    have hA3 := All.setBk (fsL Q fa5 foc (sx (!cv))) hA2 2 (.int .i64 (0))
    refine bodyPost_ret (res_ac (j := 6) (by rfl) (by rfl) (show Blk _ w.heap.size [.int .i64 (1), .int .i64 (hd), .int .i64 (0)] _ from hA3.mid)) rfl ⟨rfl, ?_⟩
    exact ⟨_, fs_dropbk hA3⟩
  · go_enter Tryz.func45, Tryz.ntmps45
    go_wp2_with fail
    refine HKi.out.mono ?_
    rintro e w2 ⟨rfl, hb2⟩
    have HB2 := Lib.hid hb2
    clear hb2 HKi
    have HH2 := Lib.hid (HHa.out _ (bthen HB1.out HB2.out))
    clear HHa
    go_wp2_with fail
    refine HH2.out.mono ?_
    rintro e w3 ⟨rfl, hb3⟩
    have HB3 := Lib.hid (bthen HB2.out hb3)
    clear hb3 HB2
    have HC3 := Lib.hid (HCh.out _ HB3.out)
    clear HCh
    go_wp2_with fail
    refine HC3.out.mono ?_
    rintro e w4 ⟨rfl, hb4⟩
    have HB4 := Lib.hid (bthen HB3.out hb4)
    clear hb4 HB3 HC3
    have HS4 := Lib.hid (HSc.out _ HB4.out (!false))
    clear HSc
    go_wp2_with fail
    refine HS4.out.mono ?_
    rintro e w5 ⟨rfl, fa5, hA5⟩
    have HA5 := Lib.hid hA5
    clear hA5 HS4
    have kb : Blk w5 w.heap.size [.int .i64 0, .int .i64 0, .int .i64 0] 91 := HA5.out.mid
    have z0 := kb.cell 0
    have z1 := kb.cell 1
    have z2 := kb.cell 2
    have f0 := kb.free 0
    have f1 := kb.free 1
    have f2 := kb.free 2
    simp only [List.getElem?_cons_succ, List.getElem?_cons_zero] at z0 z1 z2
    clear kb 
    go_wp2_with fail
    have hA1 := All.setBk (fsL Q fa5 foc (sx (!false))) HA5.out 0 (.int .i64 (1))
    have hA2 := All.setBk (fsL Q fa5 foc (sx (!false))) hA1 1 (.int .i64 (hd))
    have hA3 := All.setBk (fsL Q fa5 foc (sx (!false))) hA2 2 (.int .i64 (0))
    refine bodyPost_ret (res_ac (j := 6) (by rfl) (by rfl) (show Blk _ w.heap.size [.int .i64 (1), .int .i64 (hd), .int .i64 (0)] _ from hA3.mid)) rfl ⟨rfl, ?_⟩
    exact ⟨_, fs_dropbk hA3⟩
set_option maxRecDepth 100000 in
set_option maxHeartbeats 16000000 in
theorem click_sub (D : DcOk S K d) (i : Nat) (n : Nd) (hi : S.at i = some n) (hdis : attV n sDisabled = none) (hk : kindN n = 6) :
    ClkP S R sv fv (S.hd i) u (if hO S (ownI S d i) = 0 then 0 else 5) (if hO S (ownI S d i) = 0 then 0 else S.hd i) (if hO S (ownI S d i) = 0 then 0 else hO S (ownI S d i)) id id := by
  intro B w0 Q fa foc X l w hX hu h hOm
  have hT : TAt 0 R S sv fv w := h.P _ (List.mem_append_right _ hOm)
  have h1 := fs_newbk h w.heap.size rfl [.int .i64 0, .int .i64 0, .int .i64 0] 91
  have hb1 : Below w.heap.size w (w.alloc (.cells #[.int .i64 0, .int .i64 0, .int .i64 0] 91)) := (Below.refl _ _).alloc (Nat.le_refl _) _
  have hO1 : trO R S sv fv ∈ bk w.heap.size [.int .i64 0, .int .i64 0, .int .i64 0] 91 :: l := List.mem_cons_of_mem _ hOm
  have HKi := Lib.hid (kind_any (hT.below hb1) D.lk i n hi (D.al i n hi))
  have HHa := Lib.hid (fun wx (hb : Below w.heap.size w wx) => has_any (hT.below hb) D.lk i n hi (D.al i n hi) sDisabled)
  have HB1 := Lib.hid hb1
  have H1 := Lib.hid h1
  have HDk := Lib.hid D
  have HCh := Lib.hid (fun wx (hb : Below (w.alloc (.cells #[.int .i64 0, .int .i64 0, .int .i64 0] 91)).heap.size (w.alloc (.cells #[.int .i64 0, .int .i64 0, .int .i64 0] 91)) wx) => checked_any D (h1.still hb) hO1 i n hi (by omega))
  rw [hdis] at HHa
  simp only [Option.isSome_none] at HHa
  have HSu := Lib.hid (fun wx (hb : Below w.heap.size w wx) => submit_any (w := wx) (R := R) (hd := S.hd i) (ow := hO S (ownI S d i)) (fun wy hb2 => owner_any (hT.below (bthen hb hb2)) D.lk D.al D.nm i n hi))
  have hisk : isCk n = false := by unfold isCk; rw [hk]; rfl
  rw [hisk, if_neg (by simp), if_neg (by simp)] at HCh
  rw [hk] at HKi
  generalize hO S (ownI S d i) = ow at *
  obtain ⟨a1, a2, a3, h1e, h2e, h3e, hae⟩ : ∃ a1 a2 a3 : Int, (if ow = 0 then (0 : Int) else 5) = a1 ∧ (if ow = 0 then 0 else S.hd i) = a2 ∧ (if ow = 0 then 0 else ow) = a3 ∧ (if ow = 0 then actV 0 0 0 else actV 5 (S.hd i) ow) = actV a1 a2 a3 := ⟨_, _, _, rfl, rfl, rfl, by split <;> rfl⟩
  rw [hae] at HSu
  rw [h1e, h2e, h3e]
  generalize S.hd i = hd at *
  clear h h1 hb1 hT hOm hi D hu hO1 hisk hdis HDk hk h1e h2e h3e hae
  go_enter Tryz.func45, Tryz.ntmps45
  go_wp2_with fail
  refine HKi.out.mono ?_
  rintro e w2 ⟨rfl, hb2⟩
  have HB2 := Lib.hid hb2
  clear hb2 HKi
  have HH2 := Lib.hid (HHa.out _ (bthen HB1.out HB2.out))
  clear HHa
  go_wp2_with fail
  refine HH2.out.mono ?_
  rintro e w3 ⟨rfl, hb3⟩
  have HB3 := Lib.hid (bthen HB2.out hb3)
  clear hb3 HB2
  have HC3 := Lib.hid (HCh.out _ HB3.out)
  clear HCh
  go_wp2_with fail
  refine HC3.out.mono ?_
  rintro e w4 ⟨rfl, hb4⟩
  have HB4 := Lib.hid (bthen HB3.out hb4)
  clear hb4 HB3 HC3
  have hA4 := H1.out.still HB4.out
  have HA4 := Lib.hid hA4
  have HS4 := Lib.hid (HSu.out _ (bthen HB1.out HB4.out))
  clear HSu hA4
  go_wp2_with fail
  refine HS4.out.mono ?_
  rintro e w5 ⟨rfl, hb5⟩
  have hA5 := HA4.out.still hb5
  have HA5 := Lib.hid hA5
  clear hA5 HS4 hb5
  simp only [actV]
  have kb : Blk w5 w.heap.size [.int .i64 0, .int .i64 0, .int .i64 0] 91 := HA5.out.mid
  have z0 := kb.cell 0
  have z1 := kb.cell 1
  have z2 := kb.cell 2
  have f0 := kb.free 0
  have f1 := kb.free 1
  have f2 := kb.free 2
  simp only [List.getElem?_cons_succ, List.getElem?_cons_zero] at z0 z1 z2
  clear kb 
  go_wp2_with fail
  have hA1 := All.setBk (fsL Q fa foc X) HA5.out 0 (.int .i64 (a1))
  have hA2 := All.setBk (fsL Q fa foc X) hA1 1 (.int .i64 (a2))
  have hA3 := All.setBk (fsL Q fa foc X) hA2 2 (.int .i64 (a3))
  refine bodyPost_ret (res_ac (j := 6) (by rfl) (by rfl) (show Blk _ w.heap.size [.int .i64 (a1), .int .i64 (a2), .int .i64 (a3)] _ from hA3.mid)) rfl ⟨rfl, ?_⟩
  exact ⟨_, fs_dropbk hA3⟩
set_option maxRecDepth 100000 in
set_option maxHeartbeats 16000000 in
theorem click_tx (D : DcOk S K d) (i : Nat) (n : Nd) (hi : S.at i = some n) (hdis : attV n sDisabled = none) (hk : kindN n = 1 ∨ kindN n = 2) :
    ClkP S R sv fv (S.hd i) u 3 (S.hd i) 0 (fun _ => S.hd i) id := by
  intro B w0 Q fa foc X l w hX hu h hOm
  have hT : TAt 0 R S sv fv w := h.P _ (List.mem_append_right _ hOm)
  have h1 := fs_newbk h w.heap.size rfl [.int .i64 0, .int .i64 0, .int .i64 0] 91
  have hb1 : Below w.heap.size w (w.alloc (.cells #[.int .i64 0, .int .i64 0, .int .i64 0] 91)) := (Below.refl _ _).alloc (Nat.le_refl _) _
  have hO1 : trO R S sv fv ∈ bk w.heap.size [.int .i64 0, .int .i64 0, .int .i64 0] 91 :: l := List.mem_cons_of_mem _ hOm
  have HKi := Lib.hid (kind_any (hT.below hb1) D.lk i n hi (D.al i n hi))
  have HHa := Lib.hid (fun wx (hb : Below w.heap.size w wx) => has_any (hT.below hb) D.lk i n hi (D.al i n hi) sDisabled)
  have HB1 := Lib.hid hb1
  have H1 := Lib.hid h1
  have HDk := Lib.hid D
  have HCh := Lib.hid (fun wx (hb : Below (w.alloc (.cells #[.int .i64 0, .int .i64 0, .int .i64 0] 91)).heap.size (w.alloc (.cells #[.int .i64 0, .int .i64 0, .int .i64 0] 91)) wx) => checked_any D (h1.still hb) hO1 i n hi (by omega))
  rw [hdis] at HHa
  simp only [Option.isSome_none] at HHa
  have HSf := Lib.hid (fun wx (hb : Below (w.alloc (.cells #[.int .i64 0, .int .i64 0, .int .i64 0] 91)).heap.size (w.alloc (.cells #[.int .i64 0, .int .i64 0, .int .i64 0] 91)) wx) => setFocus_any D (h1.still hb) hO1 i n hi hk hdis)
  have hisk : isCk n = false := by unfold isCk; rcases hk with e | e <;> rw [e] <;> rfl
  rw [hisk, if_neg (by simp), if_neg (by simp)] at HCh
  have HWr := Lib.hid (written_yes hk)
  simp only []
  generalize kindN n = kx at *
  generalize S.hd i = hd at *
  have e0 : ((kx : Int) == 0) = false := by simp; omega
  have e3 : ((kx : Int) == 3) = false := by simp; omega
  have e4 : ((kx : Int) == 4) = false := by simp; omega
  have e6 : ((kx : Int) == 6) = false := by simp; omega
  clear h h1 hb1 hT hOm hi D hu hO1 hisk hdis HDk hk H1
  go_enter Tryz.func45, Tryz.ntmps45
  go_wp2_with fail
  refine HKi.out.mono ?_
  rintro e w2 ⟨rfl, hb2⟩
  have HB2 := Lib.hid hb2
  clear hb2 HKi
  have HH2 := Lib.hid (HHa.out _ (bthen HB1.out HB2.out))
  clear HHa
  go_wp2_with fail
  refine HH2.out.mono ?_
  rintro e w3 ⟨rfl, hb3⟩
  have HB3 := Lib.hid (bthen HB2.out hb3)
  clear hb3 HB2
  have HC3 := Lib.hid (HCh.out _ HB3.out)
  clear HCh
  go_wp2_with fail
  refine HC3.out.mono ?_
  rintro e w4 ⟨rfl, hb4⟩
  have HB4 := Lib.hid (bthen HB3.out hb4)
  clear hb4 HB3 HC3
  have HS4 := Lib.hid (HSf.out _ HB4.out)
  clear HSf
  go_wp2_with fail
  refine (HWr.out _).mono ?_
  rintro e w5 ⟨rfl, rfl⟩
  go_wp2_with fail
  refine HS4.out.mono ?_
  rintro e w6 ⟨rfl, hA6⟩
  have HA6 := Lib.hid hA6
  clear hA6 HS4
  have kb : Blk w6 w.heap.size [.int .i64 0, .int .i64 0, .int .i64 0] 91 := HA6.out.mid
  have z0 := kb.cell 0
  have z1 := kb.cell 1
  have z2 := kb.cell 2
  have f0 := kb.free 0
  have f1 := kb.free 1
  have f2 := kb.free 2
  simp only [List.getElem?_cons_succ, List.getElem?_cons_zero] at z0 z1 z2
  clear kb 
  go_wp2_with fail
  have hA1 := All.setBk (fsL Q fa hd X) HA6.out 0 (.int .i64 (3))
  have hA2 := All.setBk (fsL Q fa hd X) hA1 1 (.int .i64 (hd))
  have hA3 := All.setBk (fsL Q fa hd X) hA2 2 (.int .i64 (0))
  refine bodyPost_ret (res_ac (j := 6) (by rfl) (by rfl) (show Blk _ w.heap.size [.int .i64 (3), .int .i64 (hd), .int .i64 (0)] _ from hA3.mid)) rfl ⟨rfl, ?_⟩
  exact ⟨_, fs_dropbk hA3⟩
set_option maxRecDepth 100000 in
set_option maxHeartbeats 16000000 in
theorem click_els (D : DcOk S K d) (i : Nat) (n : Nd) (hi : S.at i = some n) (hdis : attV n sDisabled = none) (hk : kindN n ≠ 0 ∧ kindN n ≠ 1 ∧ kindN n ≠ 2 ∧ kindN n ≠ 3 ∧ kindN n ≠ 6) (hc : kindN n = 4 → chkd (gH S K d) (rdH S) (atH S) u (S.hd i) = true) :
    ClkP S R sv fv (S.hd i) u 0 0 0 id id := by
  intro B w0 Q fa foc X l w hX hu h hOm
  have hT : TAt 0 R S sv fv w := h.P _ (List.mem_append_right _ hOm)
  have h1 := fs_newbk h w.heap.size rfl [.int .i64 0, .int .i64 0, .int .i64 0] 91
  have hb1 : Below w.heap.size w (w.alloc (.cells #[.int .i64 0, .int .i64 0, .int .i64 0] 91)) := (Below.refl _ _).alloc (Nat.le_refl _) _
  have hO1 : trO R S sv fv ∈ bk w.heap.size [.int .i64 0, .int .i64 0, .int .i64 0] 91 :: l := List.mem_cons_of_mem _ hOm
  have HKi := Lib.hid (kind_any (hT.below hb1) D.lk i n hi (D.al i n hi))
  have HHa := Lib.hid (fun wx (hb : Below w.heap.size w wx) => has_any (hT.below hb) D.lk i n hi (D.al i n hi) sDisabled)
  have HB1 := Lib.hid hb1
  have H1 := Lib.hid h1
  have HDk := Lib.hid D
  have HCh := Lib.hid (fun wx (hb : Below (w.alloc (.cells #[.int .i64 0, .int .i64 0, .int .i64 0] 91)).heap.size (w.alloc (.cells #[.int .i64 0, .int .i64 0, .int .i64 0] 91)) wx) => checked_any D (h1.still hb) hO1 i n hi (by omega))
  rw [hdis] at HHa
  simp only [Option.isSome_none] at HHa
  have HWr := Lib.hid (fun wx => written_any (kindN n) wx)
  rw [decide_eq_false (by omega)] at HWr
  have hck : (if isCk n = true then chkd (gH S K d) (rdH S) (atH S) (uX X) (S.hd i) else false) = (kindN n == 4) := by
    unfold isCk
    by_cases h4 : kindN n = 4
    · rw [h4, hu]; exact hc h4
    · have e3 : (kindN n == 3) = false := by simp; omega
      have e4 : (kindN n == 4) = false := by simpa using h4
      rw [e3, e4]; rfl
  rw [hck] at HCh
  generalize (if isCk n = true then (0 : Int) else 8) = er at *
  generalize kindN n = kx at *
  generalize S.hd i = hd at *
  have e0 : ((kx : Int) == 0) = false := by simp; omega
  have e3 : ((kx : Int) == 3) = false := by simp; omega
  have e6 : ((kx : Int) == 6) = false := by simp; omega
  clear h h1 hb1 hT hOm hi D hu hO1 hdis HDk hck hc
  by_cases h4 : kx = 4
  · have e4 : ((kx : Int) == 4) = true := by simp [h4]
    have e4n : (kx == 4) = true := by simp [h4]
    rw [e4n] at HCh
    clear hk h4
    go_enter Tryz.func45, Tryz.ntmps45
    go_wp2_with fail
    refine HKi.out.mono ?_
    rintro e w2 ⟨rfl, hb2⟩
    have HB2 := Lib.hid hb2
    clear hb2 HKi
    have HH2 := Lib.hid (HHa.out _ (bthen HB1.out HB2.out))
    clear HHa
    go_wp2_with fail
    refine HH2.out.mono ?_
    rintro e w3 ⟨rfl, hb3⟩
    have HB3 := Lib.hid (bthen HB2.out hb3)
    clear hb3 HB2
    have HC3 := Lib.hid (HCh.out _ HB3.out)
    clear HCh
    go_wp2_with fail
    refine HC3.out.mono ?_
    rintro e w4 ⟨rfl, hb4⟩
    have HB4 := Lib.hid (bthen HB3.out hb4)
    clear hb4 HB3 HC3
    have hA4 := H1.out.still HB4.out
    have HA4 := Lib.hid hA4
    clear hA4 H1
    go_wp2_with fail
    refine (HWr.out _).mono ?_
    rintro e w5 ⟨rfl, rfl⟩
    have kb : Blk _ w.heap.size [.int .i64 0, .int .i64 0, .int .i64 0] 91 := HA4.out.mid
    have z0 := kb.cell 0
    have z1 := kb.cell 1
    have z2 := kb.cell 2
    have f0 := kb.free 0
    have f1 := kb.free 1
    have f2 := kb.free 2
    simp only [List.getElem?_cons_succ, List.getElem?_cons_zero] at z0 z1 z2
    clear kb 
    go_wp2_with fail
    have hA1 := All.setBk (fsL Q fa foc X) HA4.out 0 (.int .i64 (0))
    have hA2 := All.setBk (fsL Q fa foc X) hA1 1 (.int .i64 (0))
    have hA3 := All.setBk (fsL Q fa foc X) hA2 2 (.int .i64 (0))
    refine bodyPost_ret (res_ac (j := 6) (by rfl) (by rfl) (show Blk _ w.heap.size [.int .i64 (0), .int .i64 (0), .int .i64 (0)] _ from hA3.mid)) rfl ⟨rfl, ?_⟩
    exact ⟨_, fs_dropbk hA3⟩
  · have e4 : ((kx : Int) == 4) = false := by simp; omega
    have e4n : (kx == 4) = false := by simp [h4]
    rw [e4n] at HCh
    clear hk h4
    go_enter Tryz.func45, Tryz.ntmps45
    go_wp2_with fail
    refine HKi.out.mono ?_
    rintro e w2 ⟨rfl, hb2⟩
    have HB2 := Lib.hid hb2
    clear hb2 HKi
    have HH2 := Lib.hid (HHa.out _ (bthen HB1.out HB2.out))
    clear HHa
    go_wp2_with fail
    refine HH2.out.mono ?_
    rintro e w3 ⟨rfl, hb3⟩
    have HB3 := Lib.hid (bthen HB2.out hb3)
    clear hb3 HB2
    have HC3 := Lib.hid (HCh.out _ HB3.out)
    clear HCh
    go_wp2_with fail
    refine HC3.out.mono ?_
    rintro e w4 ⟨rfl, hb4⟩
    have HB4 := Lib.hid (bthen HB3.out hb4)
    clear hb4 HB3 HC3
    have hA4 := H1.out.still HB4.out
    have HA4 := Lib.hid hA4
    clear hA4 H1
    go_wp2_with fail
    refine (HWr.out _).mono ?_
    rintro e w5 ⟨rfl, rfl⟩
    have kb : Blk _ w.heap.size [.int .i64 0, .int .i64 0, .int .i64 0] 91 := HA4.out.mid
    have z0 := kb.cell 0
    have z1 := kb.cell 1
    have z2 := kb.cell 2
    have f0 := kb.free 0
    have f1 := kb.free 1
    have f2 := kb.free 2
    simp only [List.getElem?_cons_succ, List.getElem?_cons_zero] at z0 z1 z2
    clear kb 
    go_wp2_with fail
    have hA1 := All.setBk (fsL Q fa foc X) HA4.out 0 (.int .i64 (0))
    have hA2 := All.setBk (fsL Q fa foc X) hA1 1 (.int .i64 (0))
    have hA3 := All.setBk (fsL Q fa foc X) hA2 2 (.int .i64 (0))
    refine bodyPost_ret (res_ac (j := 6) (by rfl) (by rfl) (show Blk _ w.heap.size [.int .i64 (0), .int .i64 (0), .int .i64 (0)] _ from hA3.mid)) rfl ⟨rfl, ?_⟩
    exact ⟨_, fs_dropbk hA3⟩
end
end Go.Proofs.YtacdbnhnhdlmpaaGreatDoor.W
end
