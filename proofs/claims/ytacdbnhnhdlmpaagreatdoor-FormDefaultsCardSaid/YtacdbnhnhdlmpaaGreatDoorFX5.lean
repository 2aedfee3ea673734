/- Texts joined: LwX. -/
import Derived.Test.YtacdbnhnhdlmpaaGreatDoorFX4
import Derived.Deep.CutBlock
set_option maxRecDepth 100000
set_option maxHeartbeats 40000000
set_option linter.unusedVariables false
set_option linter.unusedSimpArgs false
section
namespace Go.Proofs.YtacdbnhnhdlmpaaGreatDoor.W
open Go.RowKit
structure DfI (S0 S : Tr) (K : Nat → List Nat) (d : Nat → Nat) (L : List Nat) (t : Nat) (X : List FX) : Prop where
  ok : DcOk S K d
  hd : ∀ x, S.hd x = S0.hd x
  el : ∀ x ∈ L, ∃ n, S.at x = some n
  nd : L.Nodup
  nod : ∀ x ∈ X, ∃ y ∈ L.take t, x.node = S0.hd y
  nu : ∀ x ∈ X, x.uv = .slice none 0 0 ∧ x.rv = .slice none 0 0
  len : X.length ≤ t
section
variable {S0 S S' : Tr} {K : Nat → List Nat} {d : Nat → Nat} {L : List Nat} {t : Nat} {X : List FX}
theorem DfI.fix (I : DfI S0 S K d L t X) {q : Nat} (hq : L[t]? = some q) : fixX X (S.hd q) = none := by
  unfold fixX
  rw [List.findIdx?_eq_none_iff]
  intro x hx
  obtain ⟨y, hy, hxy⟩ := I.nod x hx
  have hyL := List.mem_of_mem_take hy
  obtain ⟨ny, hny⟩ := I.el y hyL
  obtain ⟨nq, hnq⟩ := I.el q (List.mem_of_getElem? hq)
  have hne : y ≠ q := fun e => by
    obtain ⟨j, hj⟩ := List.mem_iff_getElem?.1 hy
    have hjt : j < t := by
      have := (List.getElem?_eq_some_iff.1 hj).1
      rw [List.length_take] at this
      omega
    rw [List.getElem?_take_of_lt hjt] at hj
    have := (List.getElem?_inj (List.getElem?_eq_some_iff.1 hj).1 I.nd).1 (hj.trans (by rw [e]; exact hq.symm))
    omega
  have h2 : x.node ≠ S.hd q := fun e => by
    rw [hxy, ← I.hd y] at e
    exact hne (I.ok.hd_inj (by rw [hny]; rfl) (by rw [hnq]; rfl) e)
  simpa using h2
theorem up_new {hd : Int} (h : fixX X hd = none) (x : FX) : upX X hd x = X ++ [x] := by unfold upX; rw [h]
theorem drop_new {hd : Int} (h : fixX X hd = none) (x : FX) (hx : x.node = hd) : dropX (upX X hd x) hd = X := by
  rw [up_new h]
  unfold dropX
  rw [List.filter_append]
  have h1 := (fix_none h).1
  rw [List.filter_eq_self.2 (fun y hy => by simpa using h1 y hy)]
  simp [hx]
theorem DfI.next (I : DfI S0 S K d L t X) (hS : DcS S S' K d) : DfI S0 S' K d L (t + 1) X :=
  ⟨hS.ok, fun x => (hS.hd x).trans (I.hd x), fun x hx => by
    obtain ⟨n, hn⟩ := I.el x hx
    obtain ⟨m, hm, _⟩ := hS.nd x n hn
    exact ⟨m, hm⟩, I.nd, fun x hx => by
    obtain ⟨y, hy, e⟩ := I.nod x hx
    exact ⟨y, (List.take_subset_take_left L (Nat.le_succ t)) hy, e⟩, I.nu, Nat.le_succ_of_le I.len⟩
theorem DfI.push (I : DfI S0 S K d L t X) (hS : DcS S S' K d) {q : Nat} (hq : L[t]? = some q) {x : FX} (hx : x.node = S.hd q) (hu : x.uv = .slice none 0 0 ∧ x.rv = .slice none 0 0) : DfI S0 S' K d L (t + 1) (X ++ [x]) := by
  have J := I.next hS
  refine ⟨J.ok, J.hd, J.el, J.nd, fun y hy => ?_, fun y hy => ?_, by rw [List.length_append, List.length_singleton]; have := I.len; omega⟩
  · rcases List.mem_append.1 hy with hy | hy
    · exact J.nod y hy
    · rw [List.mem_singleton] at hy
      subst hy
      exact ⟨q, by rw [List.take_add_one, hq]; simp, by rw [hx, I.hd]⟩
  · rcases List.mem_append.1 hy with hy | hy
    · exact J.nu y hy
    · rw [List.mem_singleton] at hy
      subst hy
      exact hu
theorem DfI.shx (I : DfI S0 S K d L t X) : ShX X := fun x hx => by
  obtain ⟨h1, h2⟩ := I.nu x hx
  exact ⟨⟨_, _, _, h1⟩, ⟨_, _, _, h2⟩⟩
theorem shx_snoc {x : FX} (h : ShX X) (hu : x.uv = .slice none 0 0 ∧ x.rv = .slice none 0 0) : ShX (X ++ [x]) := fun y hy => by
  rcases List.mem_append.1 hy with hy | hy
  · exact h y hy
  · rw [List.mem_singleton] at hy
    subst hy
    exact ⟨⟨_, _, _, hu.1⟩, ⟨_, _, _, hu.2⟩⟩
end
def sQ : List UInt8 := [113]
section
variable {B R Q : Nat} {S : Tr} {sv fv fa lv : Value} {w w0 : World} {K : Nat → List Nat} {d : Nat → Nat} {X : List FX} {foc : Int} {xs : List Value} {n : Nat}
theorem df_tr (h : All B w0 (fsL Q fa foc X ++ [trO R S sv fv, sl 3 1 lv n xs]) w) : TAt 0 R S sv fv w := h.P (trO R S sv fv) (by simp)
theorem df_row (h : All B w0 (fsL Q fa foc X ++ [trO R S sv fv, sl 3 1 lv n xs]) w) : Own w 3 1 lv n xs := h.P (sl 3 1 lv n xs) (by simp)
end
set_option maxRecDepth 100000 in
set_option maxHeartbeats 40000000 in
theorem defaults_any (w : World) (hT : Laid w) (A1 : Option Addr) (n1 c1 : Nat) (f1 : Nat → PtF) (h1 : InPt w A1 n1 f1) (hf1 : ∀ j, (f1 j).In) (vl : List UInt8) :
    Calls Tryz.prog 6 #[.slice A1 n1 c1, .string ⟨vl.toArray⟩] w fun e w' => e = .returned (.bool true) ∧ Below w.heap.size w w' := by
  have hL : ∀ wx, Below w.heap.size w wx → Laid wx := fun wx hb => hT.below hb
  have HL := Lib.hid hL
  have HAw := Lib.hid (fun wx (hb : Below w.heap.size w wx) => awake_any wx (hT.below hb))
  have HP := Lib.hid (fun wx (hb : Below w.heap.size w wx) => h1.below hb)
  have HF1 := Lib.hid hf1
  have HFw := Lib.hid (fun wx => fewp_any A1 n1 c1 wx)
  have hsz : (⟨vl.toArray⟩ : ByteArray).size = vl.length := by show vl.toArray.size = _; simp
  clear hT hL h1 hf1
  by_cases hn1 : n1 ≤ 25
  · rw [decide_eq_true hn1] at HFw
    by_cases hvl : vl.length ≤ 20
    · have d1 : decide (20 < (⟨vl.toArray⟩ : ByteArray).size) = false := by rw [hsz]; simp; omega
      have d1' : decide ((20 : Int) < (((⟨vl.toArray⟩ : ByteArray).size : Nat) : Int)) = false := by rw [hsz]; simp; omega
      have d2 : decide ((20 : Int) < (vl.length : Int)) = false := by simp; omega
      have HVl := Lib.hid hvl
      clear hsz hvl
      go_enter Tryz.func6, Tryz.ntmps6
      go_wp2_with fail
      refine (HAw.out _ (Below.refl _ _)).mono ?_
      rintro e w1 ⟨rfl, hb1⟩
      go_wp2_with fail
      refine (HFw.out _).mono ?_
      rintro e w2 ⟨rfl, rfl⟩
      have HDo := Lib.hid (document_any ((All.start w).still hb1) HL.out A1 n1 c1 f1 HP.out hn1 HF1.out)
      clear hb1 HFw HAw
      go_wp2_with fail
      refine HDo.out.mono ?_
      rintro e w3 ⟨R, S0, sv0, fv0, K, d, L, lv, rfl, hA3, hD, hLl⟩
      have hA4 : All w.heap.size w (fsL w3.heap.size (.slice none 0 0) 0 [] ++ [trO R S0 sv0 fv0, sl 3 1 lv L.length (hdC S0 L)]) (w3.alloc (.cells #[.slice none 0 0, .int .i64 0] 30)) := ((hA3.newBkA w3.heap.size rfl [.slice none 0 0, .int .i64 0] 30).nil 119 9).perm (List.Perm.swap _ _ _)
      obtain ⟨la, lc, rfl⟩ := own_shape (df_row hA4)
      have hI0 : DfI S0 S0 K d L 0 [] := ⟨hD.ok, fun _ => rfl, fun x hx => (by obtain ⟨n, hn, _⟩ := hD.el x hx; exact ⟨n, hn⟩), hD.nd, fun x hx => (by cases hx), fun x hx => (by cases hx), Nat.le_refl _⟩
      have HI0 := Lib.hid hI0
      have hLb : L.length ≤ 25 := by rw [hLl]; exact hn1
      have HA4 := Lib.hid hA4
      clear hA3 hA4 hD hLl HDo hI0 d1 d1' d2
      go_upto_region 5 with fail
      generalize w3.alloc (.cells #[.slice none 0 0, .int .i64 0] 30) = w4 at *
      generalize w3.heap.size = Q at *
      go_wp2_with fail
      go_loopw [40] (fun iv wr => ∃ (t : Nat) (S : Tr) (sv fv fa : Value) (X : List FX), t ≤ L.length ∧ iv = .int .i64 (t : Int) ∧ DfI S0 S K d L t X ∧ All w.heap.size w (fsL Q fa 0 X ++ [trO R S sv fv, sl 3 1 (.slice la L.length lc) L.length (hdC S0 L)]) wr) (fun iv _ => L.length - (intOf iv).toNat)
      case atStart => exact ⟨0, S0, sv0, fv0, _, [], Nat.zero_le _, rfl, HI0.out, HA4.out⟩
      case round =>
        obtain ⟨t, S, sv, fv, fa, X, ht, rfl, hI, hA⟩ := hrel
        have HI := Lib.hid hI
        have HA := Lib.hid hA
        clear HA4 HI0
        by_cases htl : t < L.length
        · obtain ⟨q, hq⟩ : ∃ q, L[t]? = some q := ⟨_, List.getElem?_eq_getElem htl⟩
          obtain ⟨nq, hnq⟩ := hI.el q (List.mem_of_getElem? hq)
          have hF : FdOk w.heap.size w R (trO R S sv fv) (S.hd q) (kindN nq) (valN S K d q nq) := fd_any hI.ok q nq hnq
          have hfx := hI.fix hq
          have hXl := hI.len
          obtain ⟨vg, e, _, hvc, ck⟩ := hdC_get (B := 0) (df_row hA) hq
          subst e
          rw [← hI.hd q] at ck
          have HCk := Lib.hid (fun wx (S1 : Tr) (sv1 fv1 f1 : Value) (fo1 : Int) (X1 : List FX) (h : All w.heap.size w (fsL Q f1 fo1 X1 ++ [trO R S1 sv1 fv1, sl 3 1 (.slice (some ⟨vg, 0, none⟩) L.length lc) L.length (hdC S0 L)]) wx) => (show wx.cell? ⟨vg, t, none⟩ = some (.int .i64 (S.hd q)) from by
            obtain ⟨g', e', _, _, c'⟩ := hdC_get (B := 0) (df_row h) hq
            cases e'
            rw [← hI.hd q] at c'
            exact c'))
          have HSp := Lib.hid (fun wx (f1 : Value) (fo1 : Int) (X1 : List FX) (h : All w.heap.size w (fsL Q f1 fo1 X1 ++ [trO R S sv fv, sl 3 1 (.slice (some ⟨vg, 0, none⟩) L.length lc) L.length (hdC S0 L)]) wx) => svalue_any (df_tr h) hI.ok.lk hI.ok.al hI.ok.dt (by have := hI.ok.len; omega) q nq hnq (hI.ok.nm q nq hnq))
          have hvn := valN_len hI.ok hnq
          have HNq := Lib.hid hnq
          have HQ := Lib.hid hq
          have hXb : X.length ≤ 100000 := by omega
          obtain ⟨kx, hkx⟩ : ∃ kx, kindN nq = kx := ⟨_, rfl⟩
          obtain ⟨v, hv⟩ : ∃ v, valN S K d q nq = v := ⟨_, rfl⟩
          rw [hkx, hv] at hF
          rw [hv] at HSp hvn
          have HK1 := Lib.hid (hF.kindA (List.mem_append_right _ (List.mem_cons_self)) hA)
          have HF := Lib.hid hF
          have hgd : (getX X (S.hd q)).dirty = false := by rw [(fix_none hfx).2]; rfl
          have hvx : valX X (S.hd q) v = v := by unfold valX; rw [hgd]; rfl
          have HGd := Lib.hid hgd
          have HVx := Lib.hid hvx
          have HFx := Lib.hid hfx
          have HKx := Lib.hid hkx
          have HV := Lib.hid hv
          clear hA hI hF hq hnq hgd hvx hfx hkx hv
          go_wp2_with fail
          refine HK1.out.mono ?_
          rintro e w7 ⟨rfl, hb7⟩
          have HA7 := Lib.hid (HA.out.still hb7)
          have ck7 := HCk.out _ _ _ _ _ _ _ HA7.out
          clear hb7 HA HK1 ck
          by_cases h0 : kx = 0
          · as_aux_lemma =>
              have HVa := Lib.hid (value_ty (Q := Q) (by have := HF.out.kindA (List.mem_append_right _ List.mem_cons_self) HA7.out; rw [h0] at this; exact this))
              have e0 : ((kx : Int) != 0) = false := by simp [h0]
              have e1 : ((kx : Int) == 1) = false := by simp [h0]
              have e2 : ((kx : Int) == 2) = false := by simp [h0]
              go_wp2_with fail
              refine HVa.out.mono ?_
              rintro e w8 ⟨rfl, hb8⟩
              have HA8 := Lib.hid (HA7.out.still hb8)
              have ck8 := HCk.out _ _ _ _ _ _ _ HA8.out
              clear hb8 HVa HA7 ck7
              have HSv := Lib.hid (setValue_ty (Q := Q) (HF.out.kindA (List.mem_append_right _ List.mem_cons_self) HA8.out) (by omega) ⟨sQ.toArray⟩)
              go_wp2_with fail
              refine HSv.out.mono ?_
              rintro e w9 ⟨rfl, hb9⟩
              have hA9 := HA8.out.still hb9
              have hdr := drop_any hA9 HI.out.shx (S.hd q) (by omega)
              rw [dropX_none (fix_none HFx.out).1] at hdr
              simp only [ite_self] at hdr
              clear hb9
              have ck9 := HCk.out _ _ _ _ _ _ _ hA9
              have HA9 := Lib.hid hA9
              clear HSv HA8 ck8 hA9
              have HDr := Lib.hid hdr
              clear hdr HA9
              go_wp2_with fail
              refine HDr.out.mono ?_
              rintro e w11 ⟨rfl, fa11, hA11⟩
              have ck11 := HCk.out _ _ _ _ _ _ _ hA11
              have HSa := Lib.hid (dset_all (l1 := fsL Q fa11 0 X) hA11 HI.out.ok q nq HNq.out vl (by have := HVl.out; omega) (HL.out _ hA11.below))
              clear hA11 HDr ck9
              go_wp2_with fail
              refine HSa.out.mono ?_
              rintro e w12 ⟨S', sv', fv', v12, er12, rfl, hS', hA12⟩
              obtain ⟨nq', hnq', hkk, _⟩ := hS'.nd q nq HNq.out
              have hF' : FdOk w.heap.size w R (trO R S' sv' fv') (S'.hd q) (kindN nq') (valN S' K d q nq') := fd_any hS'.ok q nq' hnq'
              have hvn' := valN_len hS'.ok hnq'
              have HSp' := Lib.hid (fun wx (f1 : Value) (fo1 : Int) (X1 : List FX) (h : All w.heap.size w (fsL Q f1 fo1 X1 ++ [trO R S' sv' fv', sl 3 1 (.slice (some ⟨vg, 0, none⟩) L.length lc) L.length (hdC S0 L)]) wx) => svalue_any (df_tr h) hS'.ok.lk hS'.ok.al hS'.ok.dt (by have := hS'.ok.len; omega) q nq' hnq' (hS'.ok.nm q nq' hnq'))
              rw [hS'.hd q] at HSp'
              rw [hkk, HKx.out, hS'.hd q] at hF'
              generalize valN S' K d q nq' = v' at *
              have hvx' : valX X (S.hd q) v' = v' := by unfold valX; rw [HGd.out]; rfl
              have hft' : ftX X (S.hd q) v' = FT.of v' := by unfold ftX; rw [HGd.out]; rfl
              have HFt' := Lib.hid hft'
              have HVx' := Lib.hid hvx'
              have HF' := Lib.hid hF'
              have HS' := Lib.hid hS'
              have HA12 := Lib.hid hA12
              have ck12 := HCk.out _ _ _ _ _ _ _ hA12
              clear hA12 HSa hF' hS' hft' hvx' hnq' hkk ck11
              have HVb := Lib.hid (value_ty (Q := Q) (by have := HF'.out.kindA (List.mem_append_right _ List.mem_cons_self) HA12.out; rw [h0] at this; exact this))
              go_wp2_with fail
              refine HVb.out.mono ?_
              rintro e w13 ⟨rfl, hb13⟩
              have HA13 := Lib.hid (HA12.out.still hb13)
              have ck13 := HCk.out _ _ _ _ _ _ _ HA13.out
              clear hb13 HVb HA12 ck12
              have HA14 := HA13
              have ck14 := ck13
              generalize w13 = w14 at *
              clear HA13 ck13
              have HSe := Lib.hid (selection_ty (Q := Q) (HF'.out.kindA (List.mem_append_right _ List.mem_cons_self) HA14.out) (by omega))
              have HUn := Lib.hid (fun wx (h : All w.heap.size w (fsL Q fa11 0 X ++ [trO R S' sv' fv', sl 3 1 (.slice (some ⟨vg, 0, none⟩) L.length lc) L.length (hdC S0 L)]) wx) => undo_ty (Q := Q) (HF'.out.kindA (List.mem_append_right _ List.mem_cons_self) h) (by omega))
              have HSl := Lib.hid (fun wx (h : All w.heap.size w (fsL Q fa11 0 X ++ [trO R S' sv' fv', sl 3 1 (.slice (some ⟨vg, 0, none⟩) L.length lc) L.length (hdC S0 L)]) wx) => select_ty (Q := Q) (HF'.out.kindA (List.mem_append_right _ List.mem_cons_self) h) (by omega) 0 0)
              go_wp2_with fail
              refine HSe.out.mono ?_
              rintro e w15 ⟨rfl, hb15⟩
              have HA15 := Lib.hid (HA14.out.still hb15)
              have ck15 := HCk.out _ _ _ _ _ _ _ HA15.out
              have HU15 := Lib.hid (HUn.out _ HA15.out)
              clear hb15 HSe HUn HA14 ck14
              go_wp2_with fail
              refine HU15.out.mono ?_
              rintro e w16 ⟨rfl, hb16⟩
              have HA16 := Lib.hid (HA15.out.still hb16)
              have ck16 := HCk.out _ _ _ _ _ _ _ HA16.out
              have HL16 := Lib.hid (HSl.out _ HA16.out)
              clear hb16 HU15 HSl HA15 ck15
              go_wp2_with fail
              refine HL16.out.mono ?_
              rintro e w17 ⟨rfl, hb17⟩
              have HA17 := Lib.hid (HA16.out.still hb17)
              clear hb17 HL16 HA16 ck16
              go_wp2_with fail
              go_roundw
              case rel => exact ⟨t + 1, S', sv', fv', fa11, X, by omega, by go_num, HI.out.next HS'.out, HA17.out⟩
              case measure => simp [intOf]; omega
          · by_cases hk : kx = 1 ∨ kx = 2
            · have hbk : ((kx : Int) == 1) = true ∨ (((kx : Int) == 1) = false ∧ ((kx : Int) == 2) = true) := by rcases hk with e | e <;> simp [e]
              rcases hbk with e1 | ⟨e1, e2⟩
              · as_aux_lemma =>
                  have hva := value_any HA7.out (List.mem_append_right _ List.mem_cons_self) HF.out h0 (fun e => by rw [HGd.out] at e; cases e) hXb
                  rw [HVx.out] at hva
                  have HVa := Lib.hid hva
                  clear hva
                  have e0 : ((kx : Int) != 0) = true := by simp; omega
                  go_wp2_with fail
                  refine HVa.out.mono ?_
                  rintro e w8 ⟨rfl, hb8⟩
                  have HA8 := Lib.hid (HA7.out.still hb8)
                  have ck8 := HCk.out _ _ _ _ _ _ _ HA8.out
                  clear hb8 HVa HA7 ck7
                  have HSv := Lib.hid (setValue_st HA8.out List.mem_cons_self HF.out hk hXb hvn HL.out sQ (by decide))
                  obtain ⟨f1, hf1⟩ : ∃ f1, valS (dirtX (getX X (S.hd q)) v) (cleanL (decide (kx = 2)) sQ) = f1 := ⟨_, rfl⟩
                  have hn1' : f1.node = S.hd q := by rw [← hf1]; exact (dirtX_node _ _).1.trans (get_node X _)
                  have hu1 : f1.uv = .slice none 0 0 ∧ f1.rv = .slice none 0 0 := by rw [← hf1]; exact ⟨rfl, rfl⟩
                  rw [hf1] at HSv
                  have HF1 := Lib.hid hn1'
                  have HU1 := Lib.hid hu1
                  clear hf1 hn1' hu1
                  go_wp2_with fail
                  refine HSv.out.mono ?_
                  rintro e w9 ⟨rfl, fa9, hA9⟩
                  have hdr := drop_any hA9 (by rw [up_new HFx.out]; exact shx_snoc HI.out.shx HU1.out) (S.hd q) (by have := (up_len X (S.hd q) f1).2.1; omega)
                  rw [drop_new HFx.out f1 HF1.out] at hdr
                  simp only [ite_self] at hdr
                  have ck9 := HCk.out _ _ _ _ _ _ _ hA9
                  have HA9 := Lib.hid hA9
                  clear HSv HA8 ck8 hA9
                  have HS9 := Lib.hid (HSp.out _ _ _ _ HA9.out)
                  clear hdr
                  go_wp2_with fail
                  refine HS9.out.mono ?_
                  rintro e w10 ⟨rfl, hb10⟩
                  have hA10 := HA9.out.still hb10
                  have hdr := drop_any hA10 (by rw [up_new HFx.out]; exact shx_snoc HI.out.shx HU1.out) (S.hd q) (by have := (up_len X (S.hd q) f1).2.1; omega)
                  rw [drop_new HFx.out f1 HF1.out] at hdr
                  simp only [ite_self] at hdr
                  have ck10 := HCk.out _ _ _ _ _ _ _ hA10
                  have HDr := Lib.hid hdr
                  clear hdr HS9 HA9 ck9 hA10 hb10
                  go_wp2_with fail
                  refine HDr.out.mono ?_
                  rintro e w11 ⟨rfl, fa11, hA11⟩
                  have ck11 := HCk.out _ _ _ _ _ _ _ hA11
                  have HSa := Lib.hid (dset_all (l1 := fsL Q fa11 0 X) hA11 HI.out.ok q nq HNq.out vl (by have := HVl.out; omega) (HL.out _ hA11.below))
                  clear hA11 HDr ck10
                  go_wp2_with fail
                  refine HSa.out.mono ?_
                  rintro e w12 ⟨S', sv', fv', v12, er12, rfl, hS', hA12⟩
                  obtain ⟨nq', hnq', hkk, _⟩ := hS'.nd q nq HNq.out
                  have hF' : FdOk w.heap.size w R (trO R S' sv' fv') (S'.hd q) (kindN nq') (valN S' K d q nq') := fd_any hS'.ok q nq' hnq'
                  have hvn' := valN_len hS'.ok hnq'
                  have HSp' := Lib.hid (fun wx (f1 : Value) (fo1 : Int) (X1 : List FX) (h : All w.heap.size w (fsL Q f1 fo1 X1 ++ [trO R S' sv' fv', sl 3 1 (.slice (some ⟨vg, 0, none⟩) L.length lc) L.length (hdC S0 L)]) wx) => svalue_any (df_tr h) hS'.ok.lk hS'.ok.al hS'.ok.dt (by have := hS'.ok.len; omega) q nq' hnq' (hS'.ok.nm q nq' hnq'))
                  rw [hS'.hd q] at HSp'
                  rw [hkk, HKx.out, hS'.hd q] at hF'
                  generalize valN S' K d q nq' = v' at *
                  have hvx' : valX X (S.hd q) v' = v' := by unfold valX; rw [HGd.out]; rfl
                  have hft' : ftX X (S.hd q) v' = FT.of v' := by unfold ftX; rw [HGd.out]; rfl
                  have HFt' := Lib.hid hft'
                  have HVx' := Lib.hid hvx'
                  have HF' := Lib.hid hF'
                  have HS' := Lib.hid hS'
                  have HA12 := Lib.hid hA12
                  have ck12 := HCk.out _ _ _ _ _ _ _ hA12
                  clear hA12 HSa hF' hS' hft' hvx' hnq' hkk ck11
                  have hva := value_any HA12.out (List.mem_append_right _ List.mem_cons_self) HF'.out h0 (fun e => by rw [HGd.out] at e; cases e) hXb
                  rw [HVx'.out] at hva
                  have HVb := Lib.hid hva
                  clear hva
                  go_wp2_with fail
                  refine HVb.out.mono ?_
                  rintro e w13 ⟨rfl, hb13⟩
                  have HA13 := Lib.hid (HA12.out.still hb13)
                  have ck13 := HCk.out _ _ _ _ _ _ _ HA13.out
                  clear hb13 HVb HA12 ck12
                  have HS13 := Lib.hid (HSp'.out _ _ _ _ HA13.out)
                  go_wp2_with fail
                  refine HS13.out.mono ?_
                  rintro e w14 ⟨rfl, hb14⟩
                  have HA14 := Lib.hid (HA13.out.still hb14)
                  have ck14 := HCk.out _ _ _ _ _ _ _ HA14.out
                  clear hb14 HS13 HA13 ck13
                  have hse := selection_any HA14.out (List.mem_append_right _ List.mem_cons_self) HF'.out hk hXb (by rw [HFt'.out]; simp [FT.of]) (by rw [HFt'.out]; simp [FT.of]) (by rw [HFt'.out]; exact hvn')
                  rw [HFt'.out] at hse
                  simp only [FT.of] at hse
                  have HSe := Lib.hid hse
                  have HUn := Lib.hid (fun wx (h : All w.heap.size w (fsL Q fa11 0 X ++ [trO R S' sv' fv', sl 3 1 (.slice (some ⟨vg, 0, none⟩) L.length lc) L.length (hdC S0 L)]) wx) => undo_st h List.mem_cons_self HF'.out hk hXb (by rw [(fix_none HFx.out).2]; rfl))
                  have hdx : (dirtX (getX X (S.hd q)) v').t.val = v' := by unfold dirtX; rw [HGd.out]; rfl
                  have HSl := Lib.hid (fun wx (h : All w.heap.size w (fsL Q fa11 0 X ++ [trO R S' sv' fv', sl 3 1 (.slice (some ⟨vg, 0, none⟩) L.length lc) L.length (hdC S0 L)]) wx) => select_st h List.mem_cons_self HF'.out hk hXb hvn' (by rw [hdx]; exact hvn') 0 0)
                  obtain ⟨f2, hf2⟩ : ∃ f2, selX (dirtX (getX X (S.hd q)) v') 0 0 = f2 := ⟨_, rfl⟩
                  have hn2' : f2.node = S.hd q := by rw [← hf2]; exact (dirtX_node _ _).1.trans (get_node X _)
                  have hu2 : f2.uv = .slice none 0 0 ∧ f2.rv = .slice none 0 0 := by
                    rw [← hf2]
                    have := dirtX_uv (getX X (S.hd q)) v'
                    rw [(fix_none HFx.out).2] at this ⊢
                    exact this
                  rw [hf2] at HSl
                  have HF2 := Lib.hid hn2'
                  have HU2 := Lib.hid hu2
                  clear hf2 hn2' hu2 hse hdx
                  go_wp2_with fail
                  refine HSe.out.mono ?_
                  rintro e w15 ⟨rfl, hb15⟩
                  have HA15 := Lib.hid (HA14.out.still hb15)
                  have ck15 := HCk.out _ _ _ _ _ _ _ HA15.out
                  have HU15 := Lib.hid (HUn.out _ HA15.out)
                  clear hb15 HSe HUn HA14 ck14
                  go_wp2_with fail
                  refine HU15.out.mono ?_
                  rintro e w16 ⟨rfl, hb16⟩
                  have HA16 := Lib.hid (HA15.out.still hb16)
                  have ck16 := HCk.out _ _ _ _ _ _ _ HA16.out
                  have HL16 := Lib.hid (HSl.out _ HA16.out)
                  clear hb16 HU15 HSl HA15 ck15
                  go_wp2_with fail
                  refine HL16.out.mono ?_
                  rintro e w17 ⟨rfl, fa17, hA17⟩
                  rw [up_new HFx.out] at hA17
                  have HA17 := Lib.hid hA17
                  clear hA17 HL16 HA16 ck16
                  go_wp2_with fail
                  go_roundw
                  case rel => exact ⟨t + 1, S', sv', fv', fa17, X ++ [f2], by omega, by go_num, HI.out.push HS'.out HQ.out HF2.out HU2.out, HA17.out⟩
                  case measure => simp [intOf]; omega
              · as_aux_lemma =>
                  have hva := value_any HA7.out (List.mem_append_right _ List.mem_cons_self) HF.out h0 (fun e => by rw [HGd.out] at e; cases e) hXb
                  rw [HVx.out] at hva
                  have HVa := Lib.hid hva
                  clear hva
                  have e0 : ((kx : Int) != 0) = true := by simp; omega
                  go_wp2_with fail
                  refine HVa.out.mono ?_
                  rintro e w8 ⟨rfl, hb8⟩
                  have HA8 := Lib.hid (HA7.out.still hb8)
                  have ck8 := HCk.out _ _ _ _ _ _ _ HA8.out
                  clear hb8 HVa HA7 ck7
                  have HSv := Lib.hid (setValue_st HA8.out List.mem_cons_self HF.out hk hXb hvn HL.out sQ (by decide))
                  obtain ⟨f1, hf1⟩ : ∃ f1, valS (dirtX (getX X (S.hd q)) v) (cleanL (decide (kx = 2)) sQ) = f1 := ⟨_, rfl⟩
                  have hn1' : f1.node = S.hd q := by rw [← hf1]; exact (dirtX_node _ _).1.trans (get_node X _)
                  have hu1 : f1.uv = .slice none 0 0 ∧ f1.rv = .slice none 0 0 := by rw [← hf1]; exact ⟨rfl, rfl⟩
                  rw [hf1] at HSv
                  have HF1 := Lib.hid hn1'
                  have HU1 := Lib.hid hu1
                  clear hf1 hn1' hu1
                  go_wp2_with fail
                  refine HSv.out.mono ?_
                  rintro e w9 ⟨rfl, fa9, hA9⟩
                  have hdr := drop_any hA9 (by rw [up_new HFx.out]; exact shx_snoc HI.out.shx HU1.out) (S.hd q) (by have := (up_len X (S.hd q) f1).2.1; omega)
                  rw [drop_new HFx.out f1 HF1.out] at hdr
                  simp only [ite_self] at hdr
                  have ck9 := HCk.out _ _ _ _ _ _ _ hA9
                  have HA9 := Lib.hid hA9
                  clear HSv HA8 ck8 hA9
                  have HS9 := Lib.hid (HSp.out _ _ _ _ HA9.out)
                  clear hdr
                  go_wp2_with fail
                  refine HS9.out.mono ?_
                  rintro e w10 ⟨rfl, hb10⟩
                  have hA10 := HA9.out.still hb10
                  have hdr := drop_any hA10 (by rw [up_new HFx.out]; exact shx_snoc HI.out.shx HU1.out) (S.hd q) (by have := (up_len X (S.hd q) f1).2.1; omega)
                  rw [drop_new HFx.out f1 HF1.out] at hdr
                  simp only [ite_self] at hdr
                  have ck10 := HCk.out _ _ _ _ _ _ _ hA10
                  have HDr := Lib.hid hdr
                  clear hdr HS9 HA9 ck9 hA10 hb10
                  go_wp2_with fail
                  refine HDr.out.mono ?_
                  rintro e w11 ⟨rfl, fa11, hA11⟩
                  have ck11 := HCk.out _ _ _ _ _ _ _ hA11
                  have HSa := Lib.hid (dset_all (l1 := fsL Q fa11 0 X) hA11 HI.out.ok q nq HNq.out vl (by have := HVl.out; omega) (HL.out _ hA11.below))
                  clear hA11 HDr ck10
                  go_wp2_with fail
                  refine HSa.out.mono ?_
                  rintro e w12 ⟨S', sv', fv', v12, er12, rfl, hS', hA12⟩
                  obtain ⟨nq', hnq', hkk, _⟩ := hS'.nd q nq HNq.out
                  have hF' : FdOk w.heap.size w R (trO R S' sv' fv') (S'.hd q) (kindN nq') (valN S' K d q nq') := fd_any hS'.ok q nq' hnq'
                  have hvn' := valN_len hS'.ok hnq'
                  have HSp' := Lib.hid (fun wx (f1 : Value) (fo1 : Int) (X1 : List FX) (h : All w.heap.size w (fsL Q f1 fo1 X1 ++ [trO R S' sv' fv', sl 3 1 (.slice (some ⟨vg, 0, none⟩) L.length lc) L.length (hdC S0 L)]) wx) => svalue_any (df_tr h) hS'.ok.lk hS'.ok.al hS'.ok.dt (by have := hS'.ok.len; omega) q nq' hnq' (hS'.ok.nm q nq' hnq'))
                  rw [hS'.hd q] at HSp'
                  rw [hkk, HKx.out, hS'.hd q] at hF'
                  generalize valN S' K d q nq' = v' at *
                  have hvx' : valX X (S.hd q) v' = v' := by unfold valX; rw [HGd.out]; rfl
                  have hft' : ftX X (S.hd q) v' = FT.of v' := by unfold ftX; rw [HGd.out]; rfl
                  have HFt' := Lib.hid hft'
                  have HVx' := Lib.hid hvx'
                  have HF' := Lib.hid hF'
                  have HS' := Lib.hid hS'
                  have HA12 := Lib.hid hA12
                  have ck12 := HCk.out _ _ _ _ _ _ _ hA12
                  clear hA12 HSa hF' hS' hft' hvx' hnq' hkk ck11
                  have hva := value_any HA12.out (List.mem_append_right _ List.mem_cons_self) HF'.out h0 (fun e => by rw [HGd.out] at e; cases e) hXb
                  rw [HVx'.out] at hva
                  have HVb := Lib.hid hva
                  clear hva
                  go_wp2_with fail
                  refine HVb.out.mono ?_
                  rintro e w13 ⟨rfl, hb13⟩
                  have HA13 := Lib.hid (HA12.out.still hb13)
                  have ck13 := HCk.out _ _ _ _ _ _ _ HA13.out
                  clear hb13 HVb HA12 ck12
                  have HS13 := Lib.hid (HSp'.out _ _ _ _ HA13.out)
                  go_wp2_with fail
                  refine HS13.out.mono ?_
                  rintro e w14 ⟨rfl, hb14⟩
                  have HA14 := Lib.hid (HA13.out.still hb14)
                  have ck14 := HCk.out _ _ _ _ _ _ _ HA14.out
                  clear hb14 HS13 HA13 ck13
                  have hse := selection_any HA14.out (List.mem_append_right _ List.mem_cons_self) HF'.out hk hXb (by rw [HFt'.out]; simp [FT.of]) (by rw [HFt'.out]; simp [FT.of]) (by rw [HFt'.out]; exact hvn')
                  rw [HFt'.out] at hse
                  simp only [FT.of] at hse
                  have HSe := Lib.hid hse
                  have HUn := Lib.hid (fun wx (h : All w.heap.size w (fsL Q fa11 0 X ++ [trO R S' sv' fv', sl 3 1 (.slice (some ⟨vg, 0, none⟩) L.length lc) L.length (hdC S0 L)]) wx) => undo_st h List.mem_cons_self HF'.out hk hXb (by rw [(fix_none HFx.out).2]; rfl))
                  have hdx : (dirtX (getX X (S.hd q)) v').t.val = v' := by unfold dirtX; rw [HGd.out]; rfl
                  have HSl := Lib.hid (fun wx (h : All w.heap.size w (fsL Q fa11 0 X ++ [trO R S' sv' fv', sl 3 1 (.slice (some ⟨vg, 0, none⟩) L.length lc) L.length (hdC S0 L)]) wx) => select_st h List.mem_cons_self HF'.out hk hXb hvn' (by rw [hdx]; exact hvn') 0 0)
                  obtain ⟨f2, hf2⟩ : ∃ f2, selX (dirtX (getX X (S.hd q)) v') 0 0 = f2 := ⟨_, rfl⟩
                  have hn2' : f2.node = S.hd q := by rw [← hf2]; exact (dirtX_node _ _).1.trans (get_node X _)
                  have hu2 : f2.uv = .slice none 0 0 ∧ f2.rv = .slice none 0 0 := by
                    rw [← hf2]
                    have := dirtX_uv (getX X (S.hd q)) v'
                    rw [(fix_none HFx.out).2] at this ⊢
                    exact this
                  rw [hf2] at HSl
                  have HF2 := Lib.hid hn2'
                  have HU2 := Lib.hid hu2
                  clear hf2 hn2' hu2 hse hdx
                  go_wp2_with fail
                  refine HSe.out.mono ?_
                  rintro e w15 ⟨rfl, hb15⟩
                  have HA15 := Lib.hid (HA14.out.still hb15)
                  have ck15 := HCk.out _ _ _ _ _ _ _ HA15.out
                  have HU15 := Lib.hid (HUn.out _ HA15.out)
                  clear hb15 HSe HUn HA14 ck14
                  go_wp2_with fail
                  refine HU15.out.mono ?_
                  rintro e w16 ⟨rfl, hb16⟩
                  have HA16 := Lib.hid (HA15.out.still hb16)
                  have ck16 := HCk.out _ _ _ _ _ _ _ HA16.out
                  have HL16 := Lib.hid (HSl.out _ HA16.out)
                  clear hb16 HU15 HSl HA15 ck15
                  go_wp2_with fail
                  refine HL16.out.mono ?_
                  rintro e w17 ⟨rfl, fa17, hA17⟩
                  rw [up_new HFx.out] at hA17
                  have HA17 := Lib.hid hA17
                  clear hA17 HL16 HA16 ck16
                  go_wp2_with fail
                  go_roundw
                  case rel => exact ⟨t + 1, S', sv', fv', fa17, X ++ [f2], by omega, by go_num, HI.out.push HS'.out HQ.out HF2.out HU2.out, HA17.out⟩
                  case measure => simp [intOf]; omega
            · as_aux_lemma =>
                have hva := value_any HA7.out (List.mem_append_right _ List.mem_cons_self) HF.out h0 (fun e => by rw [HGd.out] at e; cases e) hXb
                rw [HVx.out] at hva
                have HVa := Lib.hid hva
                clear hva
                have e0 : ((kx : Int) != 0) = true := by simp; omega
                have e1 : ((kx : Int) == 1) = false := by simp; omega
                have e2 : ((kx : Int) == 2) = false := by simp; omega
                go_wp2_with fail
                refine HVa.out.mono ?_
                rintro e w8 ⟨rfl, hb8⟩
                have HA8 := Lib.hid (HA7.out.still hb8)
                have ck8 := HCk.out _ _ _ _ _ _ _ HA8.out
                clear hb8 HVa HA7 ck7
                have HSv := Lib.hid (setValue_ty (Q := Q) (HF.out.kindA (List.mem_append_right _ List.mem_cons_self) HA8.out) hk ⟨sQ.toArray⟩)
                go_wp2_with fail
                refine HSv.out.mono ?_
                rintro e w9 ⟨rfl, hb9⟩
                have hA9 := HA8.out.still hb9
                have hdr := drop_any hA9 HI.out.shx (S.hd q) (by omega)
                rw [dropX_none (fix_none HFx.out).1] at hdr
                simp only [ite_self] at hdr
                clear hb9
                have ck9 := HCk.out _ _ _ _ _ _ _ hA9
                have HA9 := Lib.hid hA9
                clear HSv HA8 ck8 hA9
                have HS9 := Lib.hid (HSp.out _ _ _ _ HA9.out)
                clear hdr
                go_wp2_with fail
                refine HS9.out.mono ?_
                rintro e w10 ⟨rfl, hb10⟩
                have hA10 := HA9.out.still hb10
                have hdr := drop_any hA10 HI.out.shx (S.hd q) (by omega)
                rw [dropX_none (fix_none HFx.out).1] at hdr
                simp only [ite_self] at hdr
                have ck10 := HCk.out _ _ _ _ _ _ _ hA10
                have HDr := Lib.hid hdr
                clear hdr HS9 HA9 ck9 hA10 hb10
                go_wp2_with fail
                refine HDr.out.mono ?_
                rintro e w11 ⟨rfl, fa11, hA11⟩
                have ck11 := HCk.out _ _ _ _ _ _ _ hA11
                have HSa := Lib.hid (dset_all (l1 := fsL Q fa11 0 X) hA11 HI.out.ok q nq HNq.out vl (by have := HVl.out; omega) (HL.out _ hA11.below))
                clear hA11 HDr ck10
                go_wp2_with fail
                refine HSa.out.mono ?_
                rintro e w12 ⟨S', sv', fv', v12, er12, rfl, hS', hA12⟩
                obtain ⟨nq', hnq', hkk, _⟩ := hS'.nd q nq HNq.out
                have hF' : FdOk w.heap.size w R (trO R S' sv' fv') (S'.hd q) (kindN nq') (valN S' K d q nq') := fd_any hS'.ok q nq' hnq'
                have hvn' := valN_len hS'.ok hnq'
                have HSp' := Lib.hid (fun wx (f1 : Value) (fo1 : Int) (X1 : List FX) (h : All w.heap.size w (fsL Q f1 fo1 X1 ++ [trO R S' sv' fv', sl 3 1 (.slice (some ⟨vg, 0, none⟩) L.length lc) L.length (hdC S0 L)]) wx) => svalue_any (df_tr h) hS'.ok.lk hS'.ok.al hS'.ok.dt (by have := hS'.ok.len; omega) q nq' hnq' (hS'.ok.nm q nq' hnq'))
                rw [hS'.hd q] at HSp'
                rw [hkk, HKx.out, hS'.hd q] at hF'
                generalize valN S' K d q nq' = v' at *
                have hvx' : valX X (S.hd q) v' = v' := by unfold valX; rw [HGd.out]; rfl
                have hft' : ftX X (S.hd q) v' = FT.of v' := by unfold ftX; rw [HGd.out]; rfl
                have HFt' := Lib.hid hft'
                have HVx' := Lib.hid hvx'
                have HF' := Lib.hid hF'
                have HS' := Lib.hid hS'
                have HA12 := Lib.hid hA12
                have ck12 := HCk.out _ _ _ _ _ _ _ hA12
                clear hA12 HSa hF' hS' hft' hvx' hnq' hkk ck11
                have hva := value_any HA12.out (List.mem_append_right _ List.mem_cons_self) HF'.out h0 (fun e => by rw [HGd.out] at e; cases e) hXb
                rw [HVx'.out] at hva
                have HVb := Lib.hid hva
                clear hva
                go_wp2_with fail
                refine HVb.out.mono ?_
                rintro e w13 ⟨rfl, hb13⟩
                have HA13 := Lib.hid (HA12.out.still hb13)
                have ck13 := HCk.out _ _ _ _ _ _ _ HA13.out
                clear hb13 HVb HA12 ck12
                have HS13 := Lib.hid (HSp'.out _ _ _ _ HA13.out)
                go_wp2_with fail
                refine HS13.out.mono ?_
                rintro e w14 ⟨rfl, hb14⟩
                have HA14 := Lib.hid (HA13.out.still hb14)
                have ck14 := HCk.out _ _ _ _ _ _ _ HA14.out
                clear hb14 HS13 HA13 ck13
                have HSe := Lib.hid (selection_ty (Q := Q) (HF'.out.kindA (List.mem_append_right _ List.mem_cons_self) HA14.out) hk)
                have HUn := Lib.hid (fun wx (h : All w.heap.size w (fsL Q fa11 0 X ++ [trO R S' sv' fv', sl 3 1 (.slice (some ⟨vg, 0, none⟩) L.length lc) L.length (hdC S0 L)]) wx) => undo_ty (Q := Q) (HF'.out.kindA (List.mem_append_right _ List.mem_cons_self) h) hk)
                have HSl := Lib.hid (fun wx (h : All w.heap.size w (fsL Q fa11 0 X ++ [trO R S' sv' fv', sl 3 1 (.slice (some ⟨vg, 0, none⟩) L.length lc) L.length (hdC S0 L)]) wx) => select_ty (Q := Q) (HF'.out.kindA (List.mem_append_right _ List.mem_cons_self) h) hk 0 0)
                go_wp2_with fail
                refine HSe.out.mono ?_
                rintro e w15 ⟨rfl, hb15⟩
                have HA15 := Lib.hid (HA14.out.still hb15)
                have ck15 := HCk.out _ _ _ _ _ _ _ HA15.out
                have HU15 := Lib.hid (HUn.out _ HA15.out)
                clear hb15 HSe HUn HA14 ck14
                go_wp2_with fail
                refine HU15.out.mono ?_
                rintro e w16 ⟨rfl, hb16⟩
                have HA16 := Lib.hid (HA15.out.still hb16)
                have ck16 := HCk.out _ _ _ _ _ _ _ HA16.out
                have HL16 := Lib.hid (HSl.out _ HA16.out)
                clear hb16 HU15 HSl HA15 ck15
                go_wp2_with fail
                refine HL16.out.mono ?_
                rintro e w17 ⟨rfl, hb17⟩
                have HA17 := Lib.hid (HA16.out.still hb17)
                clear hb17 HL16 HA16 ck16
                go_wp2_with fail
                go_roundw
                case rel => exact ⟨t + 1, S', sv', fv', fa11, X, by omega, by go_num, HI.out.next HS'.out, HA17.out⟩
                case measure => simp [intOf]; omega
        · obtain rfl : t = L.length := by omega
          have HKz := Lib.hid (kind_zero (df_tr hA))
          have HOz := Lib.hid (fun wx (hb : Below wr.heap.size wr wx) => owner_zero ((df_tr hA).below hb))
          have HB := Lib.hid hA.below
          clear hA hI HA HI
          go_wp2_with fail
          refine HKz.out.mono ?_
          rintro e w7 ⟨rfl, hb7⟩
          have HO7 := Lib.hid (HOz.out _ hb7)
          have HB7 := Lib.hid (bthen HB.out hb7)
          clear hb7 HKz HOz
          go_wp2_with fail
          refine HO7.out.mono ?_
          rintro e w8 ⟨rfl, hb8⟩
          have HB8 := Lib.hid (bthen HB7.out hb8)
          clear hb8
          go_wp2_with fail
          go_ret
          exact ⟨rfl, HB8.out⟩
    · have d1 : decide (20 < (⟨vl.toArray⟩ : ByteArray).size) = true := by rw [hsz]; simp; omega
      have d1' : decide ((20 : Int) < (((⟨vl.toArray⟩ : ByteArray).size : Nat) : Int)) = true := by rw [hsz]; simp; omega
      have d2 : decide ((20 : Int) < (vl.length : Int)) = true := by simp; omega
      go_enter Tryz.func6, Tryz.ntmps6
      go_wp2_with fail
      refine (HAw.out _ (Below.refl _ _)).mono ?_
      rintro e w1 ⟨rfl, hb1⟩
      go_wp2_with fail
      refine (HFw.out _).mono ?_
      rintro e w2 ⟨rfl, rfl⟩
      go_wp2_with fail
      refine (HAw.out _ hb1).mono ?_
      rintro e w3 ⟨rfl, hb3⟩
      go_wp2_with fail
      go_ret
      exact ⟨rfl, bthen hb1 hb3⟩
  · rw [decide_eq_false hn1] at HFw
    go_enter Tryz.func6, Tryz.ntmps6
    go_wp2_with fail
    refine (HAw.out _ (Below.refl _ _)).mono ?_
    rintro e w1 ⟨rfl, hb1⟩
    go_wp2_with fail
    refine (HFw.out _).mono ?_
    rintro e w2 ⟨rfl, rfl⟩
    go_wp2_with fail
    refine (HAw.out _ hb1).mono ?_
    rintro e w3 ⟨rfl, hb3⟩
    go_wp2_with fail
    go_ret
    exact ⟨rfl, bthen hb1 hb3⟩
end Go.Proofs.YtacdbnhnhdlmpaaGreatDoor.W
end
