/- Texts joined: LwF. -/
import Derived.Test.YtacdbnhnhdlmpaaGreatDoorFF3
import Derived.Deep.CutBlock
set_option maxRecDepth 100000
set_option maxHeartbeats 40000000
set_option linter.unusedVariables false
set_option linter.unusedSimpArgs false
section
namespace Go.Proofs.YtacdbnhnhdlmpaaGreatDoor.W
open Go.RowKit
def foL (R : Nat) (S : Tr) (sv fv va vb lv : Value) (L fl : List Nat) : List Ob := [sl 3 1 vb fl.length (hdC S fl), sl 3 1 va fl.length (hdC S fl), trO R S sv fv, sl 3 1 lv L.length (hdC S L)]
section
variable {B Q R : Nat} {S : Tr} {sv fv va vb lv fa : Value} {L fl : List Nat} {X : List FX} {foc : Int} {w0 w w' : World} {l : List Ob}
theorem fs_new {o : Ob} (h : All B w0 (fsL Q fa foc X ++ l) w) (hp : o.P w') (hb : Below w.heap.size w w') (hk : ∀ k, o.F k → w.heap.size ≤ k) : All B w0 (fsL Q fa foc X ++ o :: l) w' :=
  (h.new hp hb hk).perm List.perm_middle.symm
theorem fo_tr : trO R S sv fv ∈ foL R S sv fv va vb lv L fl := by simp [foL]
theorem fo_a (h : All B w0 (fsL Q fa foc X ++ foL R S sv fv va vb lv L fl) w) : Own w 3 1 va fl.length (hdC S fl) := h.P (sl 3 1 va fl.length (hdC S fl)) (by simp [foL])
theorem fo_b (h : All B w0 (fsL Q fa foc X ++ foL R S sv fv va vb lv L fl) w) : Own w 3 1 vb fl.length (hdC S fl) := h.P (sl 3 1 vb fl.length (hdC S fl)) (by simp [foL])
theorem fo_l (h : All B w0 (fsL Q fa foc X ++ foL R S sv fv va vb lv L fl) w) : Own w 3 1 lv L.length (hdC S L) := h.P (sl 3 1 lv L.length (hdC S L)) (by simp [foL])
end
def fcS4 (a : Int) : List Value → Int
  | [] => a
  | [_] => a
  | _ => 0
def fcS3 (a : Int) : List Value → Int
  | [] => a
  | _ => 0
def canT (S : Tr) (fl : List Nat) (h : Int) (t : Nat) : Bool := (fl.take t).any fun y => S.hd y == h
theorem canT_succ {S : Tr} {fl : List Nat} {h : Int} {t x : Nat} (hx : fl[t]? = some x) : canT S fl h (t + 1) = (canT S fl h t || (S.hd x == h)) := by
  unfold canT
  rw [List.take_add_one, hx, List.any_append]
  simp
theorem can_end {S : Tr} {K : Nat → List Nat} {d : Nat → Nat} (D : DcOk S K d) {q : Nat} {n : Nd} (hq : S.at q = some n) : canT S (focL S K d) (S.hd q) (focL S K d).length = focN n := by
  unfold canT
  rw [List.take_length]
  have hm := focL_mem D hq
  cases e : focN n with
  | true =>
    rw [List.any_eq_true]
    exact ⟨q, hm.2 e, by simp⟩
  | false =>
    rw [List.any_eq_false]
    intro y hy h2
    have := D.hd_inj (focL_live D y hy) (by rw [hq]; rfl) (by simpa using h2)
    subst this
    rw [hm.1 hy] at e
    cases e
set_option maxRecDepth 100000 in
set_option maxHeartbeats 40000000 in
theorem focus_any (w : World) (hT : Laid w) (A1 : Option Addr) (n1 c1 : Nat) (f1 : Nat → PtF) (h1 : InPt w A1 n1 f1) (hf1 : ∀ j, (f1 j).In) (sb : Nat) (hsb : sb ≤ 255) :
    Calls Tryz.prog 11 #[.slice A1 n1 c1, .int .u8 (sb : Int)] w fun e w' => e = .returned (.bool true) ∧ Below w.heap.size w w' := by
  have hL : ∀ wx, Below w.heap.size w wx → Laid wx := fun wx hb => hT.below hb
  have HL := Lib.hid hL
  have HAw := Lib.hid (fun wx (hb : Below w.heap.size w wx) => awake_any wx (hT.below hb))
  have HP := Lib.hid (fun wx (hb : Below w.heap.size w wx) => h1.below hb)
  have HF1 := Lib.hid hf1
  have HFw := Lib.hid (fun wx => fewp_any A1 n1 c1 wx)
  clear hT hL h1 hf1
  by_cases hn1 : n1 ≤ 25
  · rw [decide_eq_true hn1] at HFw
    go_enter Tryz.func11, Tryz.ntmps11
    go_wp2_with fail
    refine (HAw.out _ (Below.refl _ _)).mono ?_
    rintro e w1 ⟨rfl, hb1⟩
    go_wp2_with fail
    refine (HFw.out _).mono ?_
    rintro e w2 ⟨rfl, rfl⟩
    have HDo := Lib.hid (document_any ((All.start w).still hb1) HL.out A1 n1 c1 f1 HP.out hn1 HF1.out)
    clear hb1 HFw HAw
    go_wp2_with fail
    refine HDo.out.mono ?_
    rintro e w3 ⟨R, S, sv, fv, K, d, L, lv, rfl, hA3, hD, hLl⟩
    have hA4 : All w.heap.size w (fsL w3.heap.size (.slice none 0 0) 0 [] ++ [trO R S sv fv, sl 3 1 lv L.length (hdC S L)]) (w3.alloc (.cells #[.slice none 0 0, .int .i64 0] 30)) := ((hA3.newBkA w3.heap.size rfl [.slice none 0 0, .int .i64 0] 30).nil 119 9).perm (List.Perm.swap _ _ _)
    have hT4 : TAt 0 R S sv fv (w3.alloc (.cells #[.slice none 0 0, .int .i64 0] 30)) := hA4.P (trO R S sv fv) (by simp)
    have HFs := Lib.hid (focusables_any hD.ok hT4)
    have HD := Lib.hid hD
    have HDk := Lib.hid hD.ok
    have HLl := Lib.hid hLl
    have HA4 := Lib.hid hA4
    clear hA3 hA4 hT4 hLl HDo hD
    go_upto_region 5 with fail
    generalize w3.alloc (.cells #[.slice none 0 0, .int .i64 0] 30) = w4 at *
    generalize w3.heap.size = Q at *
    go_wp2_with fail
    refine HFs.out.mono ?_
    rintro e w5 ⟨va, rfl, hva, hb5⟩
    have hA5 := fs_new (o := sl 3 1 va (focL S K d).length (hdC S (focL S K d))) HA4.out (own_low hva (Nat.zero_le _)) hb5 (fun k hk => (hva.lt k hk).1)
    have hT5 : TAt 0 R S sv fv w5 := hA5.P (trO R S sv fv) (by simp)
    have HSf := Lib.hid (sfocusable_any HDk.out hT5)
    have HA5 := Lib.hid hA5
    obtain ⟨aa, ac, rfl⟩ := own_shapeB hva
    clear hA5 hT5 hva hb5 HFs HA4
    go_wp2_with fail
    refine HSf.out.mono ?_
    rintro e w6 ⟨vb, rfl, hvb, hb6⟩
    have hA6 : All w.heap.size w (fsL Q (.slice none 0 0) 0 [] ++ foL R S sv fv (.slice aa (focL S K d).length ac) vb lv L (focL S K d)) w6 := fs_new (o := sl 3 1 vb (focL S K d).length (hdC S (focL S K d))) HA5.out (own_low hvb (Nat.zero_le _)) hb6 (fun k hk => (hvb.lt k hk).1)
    obtain ⟨ba, bc, rfl⟩ := own_shapeB hvb
    obtain ⟨la, lc, rfl⟩ := own_shape (fo_l hA6)
    have HA6 := Lib.hid hA6
    have hml := focL_len HDk.out
    have HIn := Lib.hid (fun x (hx : x ∈ focL S K d) => focL_in HD.out hx)
    have HLn := Lib.hid (fun x (hx : x ∈ focL S K d) => focL_at hx)
    have HKt := Lib.hid (fun foc wx (hA : All w.heap.size w (fsL Q (.slice none 0 0) foc [] ++ foL R S sv fv (.slice aa (focL S K d).length ac) (.slice ba (focL S K d).length bc) (.slice la L.length lc) L (focL S K d)) wx) (hf : foc = 0 ∨ ∃ i ∈ focL S K d, foc = S.hd i) (back : Bool) (key : List UInt8) (hkey : key = if back = true then sShift else sTab) => key_tab HDk.out hA fo_tr hf back key hkey)
    have HNx := Lib.hid (fun foc wx (l : List Ob) (hA : All w.heap.size w (fsL Q (.slice none 0 0) foc [] ++ l) wx) (hO : trO R S sv fv ∈ l) (hf : foc = 0 ∨ ∃ i ∈ focL S K d, foc = S.hd i) (back : Bool) => next_any HDk.out (show TAt 0 R S sv fv wx from hA.P _ (List.mem_append_right _ hO)) foc (fun wy hb => focused_ok HDk.out (hA.still hb) hO hf) back)
    have HFc := Lib.hid (fun foc wx (l : List Ob) (hA : All w.heap.size w (fsL Q (.slice none 0 0) foc [] ++ l) wx) (hO : trO R S sv fv ∈ l) (hf : foc = 0 ∨ ∃ i ∈ focL S K d, foc = S.hd i) => focused_ok HDk.out hA hO hf)
    have HTo := Lib.hid (fcT_ok HDk.out)
    have HBo := Lib.hid (fcB_ok HDk.out)
    have HFw := Lib.hid (nx_fwd HDk.out)
    have HBw := Lib.hid (nx_back HDk.out)
    have HLa := Lib.hid (nx_last HDk.out)
    have HCe := Lib.hid (fun q n (hq : S.at q = some n) => can_end HDk.out hq)
    have HMe := Lib.hid (fun q n (hq : S.at q = some n) => focL_mem HDk.out hq)
    generalize focL S K d = fl at *
    have HB6 := Lib.hid hA6.below
    have hRa := Lib.hid (fo_a hA6)
    have hRb := Lib.hid (fo_b hA6)
    clear hvb hb6 HSf HA5 hA6
    go_wp2_with fail
    go_loopw [43] (fun iv wr => ∃ t : Nat, t ≤ fl.length ∧ iv = .int .i64 (t : Int) ∧ Below w6.heap.size w6 wr) (fun iv _ => fl.length - (intOf iv).toNat)
    case atStart => exact ⟨0, Nat.zero_le _, rfl, Below.refl _ _⟩
    case round =>
      obtain ⟨t, ht, rfl, hbt⟩ := hrel
      have HBt := Lib.hid hbt
      clear hbt
      by_cases htl : t < fl.length
      · obtain ⟨x, hx⟩ : ∃ x, fl[t]? = some x := ⟨_, List.getElem?_eq_getElem htl⟩
        obtain ⟨ga, e, _, hca, cka⟩ := hdC_get (B := 0) (own_belowM hRa.out HBt.out) hx
        obtain ⟨gb, e2, _, hcb, ckb⟩ := hdC_get (B := 0) (own_belowM hRb.out HBt.out) hx
        subst e e2
        generalize S.hd x = hx' at *
        have y1 := fun (x : InS (StB wr)) => cell_keep x.h cka
        have y2 := fun (x : InS (StB wr)) => cell_keep x.h ckb
        have hne := stb_ne wr
        clear hx
        go_upto_region 11 with fail
        refine reg_f (fun _ _ => True) (fun _ _ => True) 9 (by kernel_rfl) (by kernel_rfl) (fun _ _ _ _ _ => trivial) trivial ?_
        simp only [List.take_succ_cons, List.take_zero, List.drop_succ_cons, List.drop_zero]
        repeat (first
          | (refine RV.m_held (by rfl) (by rfl) (fun K hK => ?_); go_big_quiet_step (fail); refine wpQuiet_nil ?_; refine hK.out _ ?_; clear hK K)
          | (refine RV.m_skip (by rfl) ?_; simp only [Act.put, List.setIfInBounds_toArray, List.set_cons_zero, List.set_cons_succ]))
        refine RV.m_nil ?_
        intro w7 hb7 _
        have HB7 := Lib.hid (bthen HBt.out (show Below wr.heap.size wr w7 from hb7))
        clear y1 y2 hne hb7 cka ckb
        go_wp2_with fail
        go_roundw
        case rel => exact ⟨t + 1, by omega, by go_num, HB7.out⟩
        case measure => simp [intOf]; omega
      · obtain rfl : t = fl.length := by omega
        have HA7 := Lib.hid (HA6.out.still HBt.out)
        clear hRa hRb HBt HA6 HB6
        by_cases hm0 : fl = []
        · subst hm0
          have HK1 := Lib.hid (HKt.out 0 wr HA7.out (.inl rfl) false sTab rfl)
          rw [if_pos rfl, show nxH S [] 0 false = 0 from rfl] at HK1
          simp only [actV] at HK1
          have HN1 := Lib.hid (fun wx (hA : All w.heap.size w (fsL Q (.slice none 0 0) 0 [] ++ foL R S sv fv (.slice aa ([] : List Nat).length ac) (.slice ba ([] : List Nat).length bc) (.slice la L.length lc) L []) wx) => HNx.out 0 wx _ hA fo_tr (.inl rfl) true)
          rw [show nxH S [] 0 true = 0 from rfl] at HN1
          simp only [List.length_nil] at HA7 HK1 HN1 ⊢
          clear HKt HNx HFc HTo HBo HFw HBw HLa HCe HMe
          go_wp2_with fail
          refine HK1.out.mono ?_
          rintro e w8 ⟨rfl, hA8⟩
          have HN8 := Lib.hid (HN1.out w8 hA8)
          have HA8 := Lib.hid hA8
          clear hA8 HK1 HN1
          go_wp2_with fail
          refine HN8.out.mono ?_
          rintro e w9 ⟨rfl, hb9⟩
          have HB9 := Lib.hid (bthen HA8.out.below hb9)
          clear hb9
          go_wp2_with fail
          go_ret
          exact ⟨rfl, HB9.out⟩
        · have hfp : 0 < fl.length := List.length_pos_iff.2 hm0
          have gm0 : ¬ (fl.length : Int) = 0 := by omega
          have gmb : ((fl.length : Int) == 0) = false := beq_eq_false_iff_ne.2 gm0
          have hLp : 0 < L.length := by
            obtain ⟨x, hx⟩ : ∃ x, x ∈ fl := List.exists_mem_of_length_pos hfp
            exact List.length_pos_of_mem (HIn.out x hx)
          have hLb : L.length ≤ 25 := by rw [HLl.out]; exact hn1
          have HM0 := Lib.hid hm0
          clear hm0
          go_wp2_with fail
          go_loopw [71] (fun iv wr => ∃ t : Nat, t ≤ 2 * fl.length ∧ iv = .int .i64 (t : Int) ∧ All w.heap.size w (fsL Q (.slice none 0 0) (fcT S fl t) [] ++ foL R S sv fv (.slice aa fl.length ac) (.slice ba fl.length bc) (.slice la L.length lc) L fl) wr) (fun iv _ => 2 * fl.length - (intOf iv).toNat)
          case atStart => exact ⟨0, Nat.zero_le _, rfl, HA7.out⟩
          case round =>
            obtain ⟨t, ht, rfl, hA⟩ := hrel
            have HA := Lib.hid hA
            clear hA HA7
            by_cases htl : t < 2 * fl.length
            · obtain ⟨j, hj⟩ : ∃ j, t % fl.length = j := ⟨_, rfl⟩
              have hjm : j < fl.length := by rw [← hj]; exact Nat.mod_lt _ hfp
              have hjm2 : (j : Int) < (fl.length : Int) := by omega
              have em : Int.tmod (t : Int) (fl.length : Int) = (j : Int) := by rw [← hj]; exact tmod_nat t fl.length
              obtain ⟨x, hx⟩ : ∃ x, fl[j]? = some x := ⟨_, List.getElem?_eq_getElem hjm⟩
              have hft : fcT S fl (t + 1) = S.hd x := by
                unfold fcT
                rw [if_neg (Nat.succ_ne_zero t), Nat.add_sub_cancel, hj, List.getD_eq_getElem?_getD, hx]; rfl
              have hk := HKt.out (fcT S fl t) wr HA.out (HTo.out hfp t) false sTab rfl
              rw [if_neg HM0.out, HFw.out hfp t, hft] at hk
              simp only [actV] at hk
              have HNe := Lib.hid (show S.hd x = 0 ∨ ∃ i ∈ fl, S.hd x = S.hd i from .inr ⟨x, List.mem_of_getElem? hx, rfl⟩)
              have HFt := Lib.hid hft
              have HX := Lib.hid hx
              have HK1 := Lib.hid hk
              clear hk hft hx hj
              go_wp2_with fail
              refine HK1.out.mono ?_
              rintro e w8 ⟨rfl, hA8⟩
              have hA9 := hA8.alloc (.cells #[.int .i64 3, .int .i64 (S.hd x), .int .i64 0] 91)
              have HKb := Lib.hid (Blk.new w8 [.int .i64 3, .int .i64 (S.hd x), .int .i64 0] 91)
              have HA9 := Lib.hid hA9
              clear hA8 hA9 HK1 HA
              go_upto_region 20 with fail
              generalize w8.alloc (.cells #[.int .i64 3, .int .i64 (S.hd x), .int .i64 0] 91) = w9 at *
              generalize w8.heap.size = r at *
              have HF9 := Lib.hid (fun wx (hb : Below w9.heap.size w9 wx) => HFc.out (S.hd x) wx _ (HA9.out.still hb) fo_tr HNe.out)
              obtain ⟨ga, e, _, hca, cka⟩ := hdC_get (B := 0) (fo_a HA9.out) HX.out
              subst e
              generalize S.hd x = hx' at *
              have ya := fun (q : InS (StB w9)) => cell_keep q.h cka
              have yb0 := fun (q : InS (StB w9)) => (HKb.out.below q.h).cell 0
              have yb1 := fun (q : InS (StB w9)) => (HKb.out.below q.h).cell 1
              have yb2 := fun (q : InS (StB w9)) => (HKb.out.below q.h).cell 2
              simp only [List.getElem?_cons_succ, List.getElem?_cons_zero] at yb0 yb1 yb2
              have hne := stb_ne w9
              refine reg_f (fun _ _ => True) (fun _ v => v = .int .i64 hx') 22 (by kernel_rfl) (by kernel_rfl) (fun _ _ _ _ _ => trivial) trivial ?_
              simp only [List.take_succ_cons, List.take_zero, List.drop_succ_cons, List.drop_zero]
              repeat (first
                | (refine RV.m_held (by rfl) (by rfl) (fun K hK => ?_); go_big_quiet_step (fail); refine wpQuiet_nil ?_; refine hK.out _ ?_; clear hK K)
                | (refine RV.m_skip (by rfl) ?_; simp only [Act.put, List.setIfInBounds_toArray, List.set_cons_zero, List.set_cons_succ]))
              refine RV.m_call (by rfl) (by rfl) (fun w => by go_simp; exact ⟨rfl, rfl⟩) (⟨_, rfl⟩) (fun X wx hx => ?_) (fun v hv => ?_)
              · refine (HF9.out wx hx.1).mono ?_
                rintro e wy ⟨rfl, hb⟩
                exact ⟨_, rfl, rfl, bthen hx.1 hb, trivial⟩
              obtain rfl : v = .int .i64 hx' := hv
              simp only [Act.put, List.setIfInBounds_toArray, List.set_cons_zero, List.set_cons_succ]
              repeat (first
                | (refine RV.m_held (by rfl) (by rfl) (fun K hK => ?_); go_big_quiet_step (fail); refine wpQuiet_nil ?_; refine hK.out _ ?_; clear hK K)
                | (refine RV.m_skip (by rfl) ?_; simp only [Act.put, List.setIfInBounds_toArray, List.set_cons_zero, List.set_cons_succ]))
              refine RV.m_nil ?_
              intro w10 hb10 _
              have HA10 := Lib.hid (HA9.out.still (show Below w9.heap.size w9 w10 from hb10))
              clear ya yb0 yb1 yb2 hne hb10 cka HF9 HKb HA9
              go_wp2_with fail
              go_roundw
              case rel => exact ⟨t + 1, by omega, by go_num, by rw [HFt.out]; exact HA10.out⟩
              case measure => simp [intOf]; omega
            · obtain rfl : t = 2 * fl.length := by omega
              have e0 : fcT S fl (2 * fl.length) = fcB S fl 0 := by
                unfold fcT fcB
                rw [if_neg (by omega), Nat.sub_zero]
              have hA := HA.out
              rw [e0] at hA
              have HA8 := Lib.hid hA
              have ec : ((2 * fl.length : Nat) : Int) = 2 * (fl.length : Int) := by omega
              simp only [ec]
              clear hA e0 HA ec
              go_wp2_with fail
              go_loopw [101] (fun iv wr => ∃ t : Nat, t ≤ fl.length ∧ iv = .int .i64 (t : Int) ∧ All w.heap.size w (fsL Q (.slice none 0 0) (fcB S fl t) [] ++ foL R S sv fv (.slice aa fl.length ac) (.slice ba fl.length bc) (.slice la L.length lc) L fl) wr) (fun iv _ => fl.length - (intOf iv).toNat)
              case atStart => exact ⟨0, Nat.zero_le _, rfl, HA8.out⟩
              case round =>
                obtain ⟨t, ht, rfl, hA⟩ := hrel
                have HA := Lib.hid hA
                clear hA HA8
                by_cases htl : t < fl.length
                · obtain ⟨j, hj⟩ : ∃ j, (2 * fl.length - 2 - t) % fl.length = j := ⟨_, rfl⟩
                  have hjm : j < fl.length := by rw [← hj]; exact Nat.mod_lt _ hfp
                  have hjm2 : (j : Int) < (fl.length : Int) := by omega
                  have em : Int.tmod (2 * (fl.length : Int) - 2 - (t : Int)) (fl.length : Int) = (j : Int) := by
                    rw [show 2 * (fl.length : Int) - 2 - (t : Int) = ((2 * fl.length - 2 - t : Nat) : Int) by omega, tmod_nat, hj]
                  obtain ⟨x, hx⟩ : ∃ x, fl[j]? = some x := ⟨_, List.getElem?_eq_getElem hjm⟩
                  have hft : fcB S fl (t + 1) = S.hd x := by
                    unfold fcB
                    rw [show 2 * fl.length - 1 - (t + 1) = 2 * fl.length - 2 - t by omega, hj, List.getD_eq_getElem?_getD, hx]; rfl
                  have hk := HKt.out (fcB S fl t) wr HA.out (HBo.out hfp t) true sShift rfl
                  rw [if_neg HM0.out, HBw.out hfp t htl, hft] at hk
                  simp only [actV] at hk
                  have HFt := Lib.hid hft
                  have HX := Lib.hid hx
                  have HK1 := Lib.hid hk
                  clear hk hft hx hj
                  go_wp2_with fail
                  refine HK1.out.mono ?_
                  rintro e w8 ⟨rfl, hA8⟩
                  have hA9 := hA8.alloc (.cells #[.int .i64 3, .int .i64 (S.hd x), .int .i64 0] 91)
                  have HKb := Lib.hid (Blk.new w8 [.int .i64 3, .int .i64 (S.hd x), .int .i64 0] 91)
                  have HA9 := Lib.hid hA9
                  clear hA8 hA9 HK1 HA
                  go_upto_region 27 with fail
                  generalize w8.alloc (.cells #[.int .i64 3, .int .i64 (S.hd x), .int .i64 0] 91) = w9 at *
                  generalize w8.heap.size = r at *
                  obtain ⟨ga, e, _, hca, cka⟩ := hdC_get (B := 0) (fo_a HA9.out) HX.out
                  subst e
                  generalize S.hd x = hx' at *
                  have ya := fun (q : InS (StB w9)) => cell_keep q.h cka
                  have yb1 := fun (q : InS (StB w9)) => (HKb.out.below q.h).cell 1
                  simp only [List.getElem?_cons_succ, List.getElem?_cons_zero] at yb1
                  have hne := stb_ne w9
                  refine reg_f (fun _ _ => True) (fun _ _ => True) 15 (by kernel_rfl) (by kernel_rfl) (fun _ _ _ _ _ => trivial) trivial ?_
                  simp only [List.take_succ_cons, List.take_zero, List.drop_succ_cons, List.drop_zero]
                  repeat (first
                    | (refine RV.m_held (by rfl) (by rfl) (fun K hK => ?_); go_big_quiet_step (fail); refine wpQuiet_nil ?_; refine hK.out _ ?_; clear hK K)
                    | (refine RV.m_skip (by rfl) ?_; simp only [Act.put, List.setIfInBounds_toArray, List.set_cons_zero, List.set_cons_succ]))
                  refine RV.m_nil ?_
                  intro w10 hb10 _
                  have HA10 := Lib.hid (HA9.out.still (show Below w9.heap.size w9 w10 from hb10))
                  clear ya yb1 hne hb10 cka HKb HA9
                  go_wp2_with fail
                  go_roundw
                  case rel => exact ⟨t + 1, by omega, by go_num, by rw [HFt.out]; exact HA10.out⟩
                  case measure => simp [intOf]; omega
                · obtain rfl : t = fl.length := by omega
                  have HBk := Lib.hid (HBo.out hfp fl.length)
                  generalize fcB S fl fl.length = fb at *
                  obtain ⟨j, hj⟩ : ∃ j, sb % L.length = j := ⟨_, rfl⟩
                  have hjL : j < L.length := by rw [← hj]; exact Nat.mod_lt _ hLp
                  have hmj : Int.tmod (sb : Int) (L.length : Int) = (j : Int) := by rw [← hj]; exact tmod_nat sb L.length
                  have hjL2 : (j : Int) < (L.length : Int) := by omega
                  have hL0 : ¬ (L.length : Int) = 0 := by omega
                  obtain ⟨q, hq⟩ : ∃ q, L[j]? = some q := ⟨_, List.getElem?_eq_getElem hjL⟩
                  obtain ⟨nq, hnq, _⟩ := HD.out.el q (List.mem_of_getElem? hq)
                  obtain ⟨vg, e, _, hvc, ck⟩ := hdC_get (B := 0) (fo_l HA.out) hq
                  subst e
                  have HSq := Lib.hid (setFocus_at HDk.out HA.out fo_tr q nq hnq)
                  have HCq := Lib.hid (HCe.out q nq hnq)
                  have HMq := Lib.hid (HMe.out q nq hnq)
                  clear hq hj hnq
                  go_wp2_with fail
                  go_loopw [16, 132] (fun cv iv wx => ∃ t : Nat, t ≤ fl.length ∧ iv = .int .i64 (t : Int) ∧ cv = .bool (canT S fl (S.hd q) t) ∧ wx = wr) (fun _ iv _ => fl.length - (intOf iv).toNat)
                  case atStart => exact ⟨0, Nat.zero_le _, rfl, rfl, rfl⟩
                  case round =>
                    obtain ⟨t, ht, rfl, rfl, hw⟩ := hrel
                    subst hw
                    by_cases htl : t < fl.length
                    · obtain ⟨x, hx⟩ : ∃ x, fl[t]? = some x := ⟨_, List.getElem?_eq_getElem htl⟩
                      have hcs := canT_succ (S := S) (h := S.hd q) hx
                      obtain ⟨ga, e, _, hca, cka⟩ := hdC_get (B := 0) (fo_a HA.out) hx
                      subst e
                      cases hcb : canT S fl (S.hd q) t with
                      | true =>
                        rw [hcb, Bool.true_or] at hcs
                        have HCs := Lib.hid hcs
                        clear hcs hx cka hcb
                        go_wp2_with fail
                        go_roundw
                        case rel => exact ⟨t + 1, by omega, by go_num, by rw [HCs.out], trivial⟩
                        case measure => simp [intOf]; omega
                      | false =>
                        rw [hcb, Bool.false_or] at hcs
                        have HCs := Lib.hid hcs
                        clear hcs hx hcb
                        go_wp2_with fail
                        go_roundw
                        case rel => exact ⟨t + 1, by omega, by go_num, by rw [HCs.out], trivial⟩
                        case measure => simp [intOf]; omega
                    · obtain rfl : t = fl.length := by omega
                      rw [HCq.out]
                      obtain ⟨z0, hz0⟩ : ∃ z, fl[0]? = some z := ⟨_, List.getElem?_eq_getElem hfp⟩
                      obtain ⟨zl, hzl⟩ : ∃ z, fl[fl.length - 1]? = some z := ⟨_, List.getElem?_eq_getElem (by omega)⟩
                      have hla := HLa.out hfp
                      rw [List.getD_eq_getElem?_getD, hzl] at hla
                      have HZl := Lib.hid (show nxH S fl 0 true = S.hd zl from hla)
                      have HZ0 := Lib.hid hz0
                      have HX := Lib.hid hzl
                      clear hla hz0 hzl
                      cases hfq : focN nq with
                      | true =>
                        have hqm := HMq.out.2 hfq
                        rw [hfq, if_pos rfl, if_pos rfl] at HSq
                        have HQm := Lib.hid hqm
                        clear hqm hfq HCq HMq
                        go_wp2_with fail
                        refine HSq.out.mono ?_
                        rintro e w8 ⟨rfl, hA8⟩
                        have HA8 := Lib.hid hA8
                        clear hA8 HSq
                        have hfa := fo_a HA8.out
                        obtain ⟨ga, e, _, hca, _⟩ := hdC_get (B := 0) hfa HX.out
                        subst e
                        go_upto_region 38 with fail
                        have hcl : ∀ (x : InS (RV.SomeAll w.heap.size w (fun k => fsL Q (.slice none 0 0) (fcS4 (S.hd q) k) [] ++ foL R S sv fv (.slice (some ⟨ga, 0, none⟩) fl.length ac) (.slice ba fl.length bc) (.slice (some ⟨vg, 0, none⟩) L.length lc) L fl))), x.w.cell? ⟨ga, fl.length - 1, none⟩ = some (.int .i64 (S.hd zl)) := fun x => by
                          obtain ⟨k, Y, hY⟩ := x.h
                          have hrow : Own x.w 3 1 (.slice (some ⟨ga, 0, none⟩) fl.length ac) fl.length (hdC S fl) := hY.P (sl 3 1 (.slice (some ⟨ga, 0, none⟩) fl.length ac) fl.length (hdC S fl)) (by simp [foL])
                          obtain ⟨g', e', _, _, c'⟩ := hdC_get (B := 0) hrow HX.out
                          cases e'
                          exact c'
                        have hne : Nonempty (InS (RV.SomeAll w.heap.size w (fun k => fsL Q (.slice none 0 0) (fcS4 (S.hd q) k) [] ++ foL R S sv fv (.slice (some ⟨ga, 0, none⟩) fl.length ac) (.slice ba fl.length bc) (.slice (some ⟨vg, 0, none⟩) L.length lc) L fl))) := ⟨⟨w8, [], [], HA8.out⟩⟩
                        have hl1 : (fl.length : Int) - 1 = ((fl.length - 1 : Nat) : Int) := by omega
                        have hl2 : ((fl.length - 1 : Nat) : Int) < (fl.length : Int) := by omega
                        have HHf := Lib.hid (fun (k : List Value) (Y : List Ob) wx (hx : All w.heap.size w (Y ++ (fsL Q (.slice none 0 0) (fcS4 (S.hd q) k) [] ++ foL R S sv fv (.slice (some ⟨ga, 0, none⟩) fl.length ac) (.slice ba fl.length bc) (.slice (some ⟨vg, 0, none⟩) L.length lc) L fl)) wx) => (show All w.heap.size w (fsL Q (.slice none 0 0) (fcS4 (S.hd q) k) [] ++ (Y ++ foL R S sv fv (.slice (some ⟨ga, 0, none⟩) fl.length ac) (.slice ba fl.length bc) (.slice (some ⟨vg, 0, none⟩) L.length lc) L fl)) wx from hx.perm (List.perm_append_comm_assoc _ _ _)))
                        refine RV.reg_all w.heap.size w (fun k => fsL Q (.slice none 0 0) (fcS4 (S.hd q) k) [] ++ foL R S sv fv (.slice (some ⟨ga, 0, none⟩) fl.length ac) (.slice ba fl.length bc) (.slice (some ⟨vg, 0, none⟩) L.length lc) L fl) (fun k v => match k with | [] => v = .int .i64 (S.hd q) | [_] => v = .int .i64 0 | [_, _] => v = .int .i64 0 | _ => v = .int .i64 (S.hd zl)) (fun _ _ => undef) (fun _ => []) (fun _ => 0) 35 (by kernel_rfl) (by kernel_rfl) HA8.out ?_
                        simp only [List.take_succ_cons, List.take_zero, List.drop_succ_cons, List.drop_zero]
                        repeat (first
                          | (refine RV.m_held (by rfl) (by rfl) (fun K hK => ?_); go_big_quiet_step (fail); refine wpQuiet_nil ?_; refine hK.out _ ?_; clear hK K)
                          | (refine RV.m_skip (by rfl) ?_; simp only [Act.put, List.setIfInBounds_toArray, List.set_cons_zero, List.set_cons_succ]))
                        refine RV.m_call (by rfl) (by rfl) (fun w => by go_simp; exact ⟨rfl, rfl⟩) (⟨_, rfl⟩) (fun X wx hx => ?_) (fun v hv => ?_)
                        · refine (HFc.out (S.hd q) wx _ (HHf.out _ X wx hx) (List.mem_append_right _ fo_tr) (.inr ⟨q, HQm.out, rfl⟩)).mono ?_
                          rintro e wy ⟨rfl, hb⟩
                          exact ⟨_, rfl, rfl, hx.still hb⟩
                        obtain rfl : v = .int .i64 (S.hd q) := hv
                        simp only [Act.put, List.setIfInBounds_toArray, List.set_cons_zero, List.set_cons_succ]
                        repeat (first
                          | (refine RV.m_held (by rfl) (by rfl) (fun K hK => ?_); go_big_quiet_step (fail); refine wpQuiet_nil ?_; refine hK.out _ ?_; clear hK K)
                          | (refine RV.m_skip (by rfl) ?_; simp only [Act.put, List.setIfInBounds_toArray, List.set_cons_zero, List.set_cons_succ]))
                        refine RV.m_call (by rfl) (by rfl) (fun w => by go_simp; exact ⟨rfl, rfl⟩) (⟨_, rfl⟩) (fun X wx hx => ?_) (fun v hv => ?_)
                        · refine (setFocus_zero (HHf.out _ X wx hx)).mono ?_
                          rintro e wy ⟨rfl, hb⟩
                          exact ⟨_, rfl, rfl, hb.perm (List.perm_append_comm_assoc _ _ _)⟩
                        obtain rfl : v = .int .i64 0 := hv
                        simp only [Act.put, List.setIfInBounds_toArray, List.set_cons_zero, List.set_cons_succ]
                        repeat (first
                          | (refine RV.m_held (by rfl) (by rfl) (fun K hK => ?_); go_big_quiet_step (fail); refine wpQuiet_nil ?_; refine hK.out _ ?_; clear hK K)
                          | (refine RV.m_skip (by rfl) ?_; simp only [Act.put, List.setIfInBounds_toArray, List.set_cons_zero, List.set_cons_succ]))
                        refine RV.m_call (by rfl) (by rfl) (fun w => by go_simp; exact ⟨rfl, rfl⟩) (⟨_, rfl⟩) (fun X wx hx => ?_) (fun v hv => ?_)
                        · refine (HFc.out 0 wx _ (HHf.out _ X wx hx) (List.mem_append_right _ fo_tr) (.inl rfl)).mono ?_
                          rintro e wy ⟨rfl, hb⟩
                          exact ⟨_, rfl, rfl, hx.still hb⟩
                        obtain rfl : v = .int .i64 0 := hv
                        simp only [Act.put, List.setIfInBounds_toArray, List.set_cons_zero, List.set_cons_succ]
                        repeat (first
                          | (refine RV.m_held (by rfl) (by rfl) (fun K hK => ?_); go_big_quiet_step (fail); refine wpQuiet_nil ?_; refine hK.out _ ?_; clear hK K)
                          | (refine RV.m_skip (by rfl) ?_; simp only [Act.put, List.setIfInBounds_toArray, List.set_cons_zero, List.set_cons_succ]))
                        refine RV.m_call (by rfl) (by rfl) (fun w => by go_simp; exact ⟨rfl, rfl⟩) (⟨_, rfl⟩) (fun X wx hx => ?_) (fun v hv => ?_)
                        · have hn := HNx.out 0 wx _ (HHf.out _ X wx hx) (List.mem_append_right _ fo_tr) (.inl rfl) true
                          rw [HZl.out] at hn
                          refine hn.mono ?_
                          rintro e wy ⟨rfl, hb⟩
                          exact ⟨_, rfl, rfl, hx.still hb⟩
                        obtain rfl : v = .int .i64 (S.hd zl) := hv
                        simp only [Act.put, List.setIfInBounds_toArray, List.set_cons_zero, List.set_cons_succ]
                        repeat (first
                          | (refine RV.m_held (by rfl) (by rfl) (fun K hK => ?_); go_big_quiet_step (fail); refine wpQuiet_nil ?_; refine hK.out _ ?_; clear hK K)
                          | (refine RV.m_skip (by rfl) ?_; simp only [Act.put, List.setIfInBounds_toArray, List.set_cons_zero, List.set_cons_succ]))
                        refine RV.m_nil ?_
                        intro w9 hA9
                        have HA9 := Lib.hid (show All w.heap.size w (fsL Q (.slice none 0 0) (0) [] ++ foL R S sv fv (.slice (some ⟨ga, 0, none⟩) fl.length ac) (.slice ba fl.length bc) (.slice (some ⟨vg, 0, none⟩) L.length lc) L fl) w9 from hA9)
                        clear hcl hne hA9 HHf HA8
                        obtain ⟨ga2, e, _, _, c0⟩ := hdC_get (B := 0) (fo_a HA9.out) HZ0.out
                        cases e
                        obtain ⟨n0, hn0, hf0⟩ := HLn.out z0 (List.mem_of_getElem? HZ0.out)
                        have HS0 := Lib.hid (setFocus_at HDk.out HA9.out fo_tr z0 n0 hn0)
                        rw [hf0, if_pos rfl, if_pos rfl] at HS0
                        go_wp2_with fail
                        refine HS0.out.mono ?_
                        rintro e w10 ⟨rfl, hA10⟩
                        obtain ⟨ga3, e, _, _, c1⟩ := hdC_get (B := 0) (fo_a hA10) HZ0.out
                        cases e
                        have hk2 := focN_kind HDk.out hn0 hf0
                        have hz00 : z0 ≠ 0 := fun e => by
                          obtain ⟨n, h, hk⟩ := HDk.out.ok.doc
                          rw [e, h] at hn0
                          cases hn0
                          omega
                        obtain ⟨p, hp⟩ := HDk.out.att z0 (by rw [hn0]; rfl) hz00
                        obtain ⟨jj, hjj⟩ := List.mem_iff_getElem?.1 hp
                        have HRm := Lib.hid (rem_all (l1 := fsL Q (.slice none 0 0) (S.hd z0) [] ++ [sl 3 1 (.slice ba fl.length bc) fl.length (hdC S fl), sl 3 1 (.slice (some ⟨ga, 0, none⟩) fl.length ac) fl.length (hdC S fl)]) (l := [sl 3 1 (.slice (some ⟨vg, 0, none⟩) L.length lc) L.length (hdC S L)]) (by simpa [foL] using hA10) HDk.out.lk z0 n0 hn0 (by omega) hjj)
                        have HTk := Lib.hid (show ∀ S', Cutd S S' (K p) p jj z0 → TrOk 1 S' (cutK K p jj) (dCut S d z0) from fun S' hc => HDk.out.ok.cut hjj hc)
                        have HCm := Lib.hid (fun q k => cut_mem HDk.out.lk hjj q k)
                        have HLv := Lib.hid HDk.out.live0
                        clear hA10 HS0 hp hjj hf0 c0
                        go_wp2_with fail
                        refine HRm.out.mono ?_
                        rintro e w11 ⟨S', sv', fv', v', rfl, hc, hA11⟩
                        have hA12 : All w.heap.size w (fsL Q (.slice none 0 0) (S'.hd z0) [] ++ [sl 3 1 (.slice ba fl.length bc) fl.length (hdC S fl), sl 3 1 (.slice (some ⟨ga, 0, none⟩) fl.length ac) fl.length (hdC S fl), trO R S' sv' fv', sl 3 1 (.slice (some ⟨vg, 0, none⟩) L.length lc) L.length (hdC S L)]) w11 := by
                          rw [hc.hd z0]
                          simpa using hA11
                        have hTk := HTk.out S' hc
                        have hn0' := hc.at_ z0
                        rw [hn0] at hn0'
                        have hT' : TAt 0 R S' sv' fv' w11 := hA12.P (trO R S' sv' fv') (by simp)
                        have HFz := Lib.hid (focused_gen (R := R) false false (S'.hd 0) hA12 (by have := (hd_ok hTk.lk hn0').2; simp; omega) (fun wx hb => by
                            have := (hT'.below hb).blk.cell 5
                            simp only [List.getElem?_cons_succ, List.getElem?_cons_zero] at this
                            rw [this, hTk.root]) (fun wx hb => (show Calls Tryz.prog 97 #[.pointer (some ⟨R, 0, none⟩), .int .i64 (S'.hd 0), .int .i64 (S'.hd z0)] wx fun e w' => e = .returned (.bool false) ∧ Below wx.heap.size wx w' from by
                            obtain ⟨nr, hnr⟩ := Option.isSome_iff_exists.1 (show (S'.at 0).isSome = true by rw [hc.at_ 0, Option.isSome_map]; exact HLv.out)
                            have hsb := sub_top hTk.lk (by rw [hn0']; rfl) (fun q hq => ((HCm.out q z0).1 hq).2 rfl) 0
                            unfold subB at hsb
                            have hT2 := hT'.below hb
                            obtain ⟨g, cap, rfl⟩ := slots_some hT2 (by have := at_lt hnr; omega)
                            have := contains_any hT2 hTk.lk 0 z0 nr _ hnr hn0'
                            rw [hsb, show (0 == z0) = false by simpa using fun e => hz00 e.symm] at this
                            exact this)) (fun e => by cases e))
                        have HB11 := Lib.hid hA12.below
                        clear hc hA11 hA12 hTk hT' hn0' HRm HTk
                        go_wp2_with fail
                        refine HFz.out.mono ?_
                        rintro e w12 ⟨rfl, hb12⟩
                        have HB12 := Lib.hid (bthen HB11.out hb12)
                        clear hb12
                        simp only [Bool.and_self, Bool.false_eq_true, if_false]
                        go_wp2_with fail
                        go_ret
                        exact ⟨rfl, HB12.out⟩
                      | false =>
                        rw [hfq, if_neg (by simp), if_neg (by simp)] at HSq
                        clear hfq HCq HMq
                        go_wp2_with fail
                        refine HSq.out.mono ?_
                        rintro e w8 ⟨rfl, hA8⟩
                        have HA8 := Lib.hid hA8
                        clear hA8 HSq
                        have hfa := fo_a HA8.out
                        obtain ⟨ga, e, _, hca, _⟩ := hdC_get (B := 0) hfa HX.out
                        subst e
                        go_upto_region 38 with fail
                        have hcl : ∀ (x : InS (RV.SomeAll w.heap.size w (fun k => fsL Q (.slice none 0 0) (fcS3 fb k) [] ++ foL R S sv fv (.slice (some ⟨ga, 0, none⟩) fl.length ac) (.slice ba fl.length bc) (.slice (some ⟨vg, 0, none⟩) L.length lc) L fl))), x.w.cell? ⟨ga, fl.length - 1, none⟩ = some (.int .i64 (S.hd zl)) := fun x => by
                          obtain ⟨k, Y, hY⟩ := x.h
                          have hrow : Own x.w 3 1 (.slice (some ⟨ga, 0, none⟩) fl.length ac) fl.length (hdC S fl) := hY.P (sl 3 1 (.slice (some ⟨ga, 0, none⟩) fl.length ac) fl.length (hdC S fl)) (by simp [foL])
                          obtain ⟨g', e', _, _, c'⟩ := hdC_get (B := 0) hrow HX.out
                          cases e'
                          exact c'
                        have hne : Nonempty (InS (RV.SomeAll w.heap.size w (fun k => fsL Q (.slice none 0 0) (fcS3 fb k) [] ++ foL R S sv fv (.slice (some ⟨ga, 0, none⟩) fl.length ac) (.slice ba fl.length bc) (.slice (some ⟨vg, 0, none⟩) L.length lc) L fl))) := ⟨⟨w8, [], [], HA8.out⟩⟩
                        have hl1 : (fl.length : Int) - 1 = ((fl.length - 1 : Nat) : Int) := by omega
                        have hl2 : ((fl.length - 1 : Nat) : Int) < (fl.length : Int) := by omega
                        have HHf := Lib.hid (fun (k : List Value) (Y : List Ob) wx (hx : All w.heap.size w (Y ++ (fsL Q (.slice none 0 0) (fcS3 fb k) [] ++ foL R S sv fv (.slice (some ⟨ga, 0, none⟩) fl.length ac) (.slice ba fl.length bc) (.slice (some ⟨vg, 0, none⟩) L.length lc) L fl)) wx) => (show All w.heap.size w (fsL Q (.slice none 0 0) (fcS3 fb k) [] ++ (Y ++ foL R S sv fv (.slice (some ⟨ga, 0, none⟩) fl.length ac) (.slice ba fl.length bc) (.slice (some ⟨vg, 0, none⟩) L.length lc) L fl)) wx from hx.perm (List.perm_append_comm_assoc _ _ _)))
                        refine RV.reg_all w.heap.size w (fun k => fsL Q (.slice none 0 0) (fcS3 fb k) [] ++ foL R S sv fv (.slice (some ⟨ga, 0, none⟩) fl.length ac) (.slice ba fl.length bc) (.slice (some ⟨vg, 0, none⟩) L.length lc) L fl) (fun k v => match k with | [] => v = .int .i64 0 | [_] => v = .int .i64 0 | _ => v = .int .i64 (S.hd zl)) (fun _ _ => undef) (fun _ => []) (fun _ => 0) 35 (by kernel_rfl) (by kernel_rfl) HA8.out ?_
                        simp only [List.take_succ_cons, List.take_zero, List.drop_succ_cons, List.drop_zero]
                        repeat (first
                          | (refine RV.m_held (by rfl) (by rfl) (fun K hK => ?_); go_big_quiet_step (fail); refine wpQuiet_nil ?_; refine hK.out _ ?_; clear hK K)
                          | (refine RV.m_skip (by rfl) ?_; simp only [Act.put, List.setIfInBounds_toArray, List.set_cons_zero, List.set_cons_succ]))
                        refine RV.m_call (by rfl) (by rfl) (fun w => by go_simp; exact ⟨rfl, rfl⟩) (⟨_, rfl⟩) (fun X wx hx => ?_) (fun v hv => ?_)
                        · refine (setFocus_zero (HHf.out _ X wx hx)).mono ?_
                          rintro e wy ⟨rfl, hb⟩
                          exact ⟨_, rfl, rfl, hb.perm (List.perm_append_comm_assoc _ _ _)⟩
                        obtain rfl : v = .int .i64 0 := hv
                        simp only [Act.put, List.setIfInBounds_toArray, List.set_cons_zero, List.set_cons_succ]
                        repeat (first
                          | (refine RV.m_held (by rfl) (by rfl) (fun K hK => ?_); go_big_quiet_step (fail); refine wpQuiet_nil ?_; refine hK.out _ ?_; clear hK K)
                          | (refine RV.m_skip (by rfl) ?_; simp only [Act.put, List.setIfInBounds_toArray, List.set_cons_zero, List.set_cons_succ]))
                        refine RV.m_call (by rfl) (by rfl) (fun w => by go_simp; exact ⟨rfl, rfl⟩) (⟨_, rfl⟩) (fun X wx hx => ?_) (fun v hv => ?_)
                        · refine (HFc.out 0 wx _ (HHf.out _ X wx hx) (List.mem_append_right _ fo_tr) (.inl rfl)).mono ?_
                          rintro e wy ⟨rfl, hb⟩
                          exact ⟨_, rfl, rfl, hx.still hb⟩
                        obtain rfl : v = .int .i64 0 := hv
                        simp only [Act.put, List.setIfInBounds_toArray, List.set_cons_zero, List.set_cons_succ]
                        repeat (first
                          | (refine RV.m_held (by rfl) (by rfl) (fun K hK => ?_); go_big_quiet_step (fail); refine wpQuiet_nil ?_; refine hK.out _ ?_; clear hK K)
                          | (refine RV.m_skip (by rfl) ?_; simp only [Act.put, List.setIfInBounds_toArray, List.set_cons_zero, List.set_cons_succ]))
                        refine RV.m_call (by rfl) (by rfl) (fun w => by go_simp; exact ⟨rfl, rfl⟩) (⟨_, rfl⟩) (fun X wx hx => ?_) (fun v hv => ?_)
                        · have hn := HNx.out 0 wx _ (HHf.out _ X wx hx) (List.mem_append_right _ fo_tr) (.inl rfl) true
                          rw [HZl.out] at hn
                          refine hn.mono ?_
                          rintro e wy ⟨rfl, hb⟩
                          exact ⟨_, rfl, rfl, hx.still hb⟩
                        obtain rfl : v = .int .i64 (S.hd zl) := hv
                        simp only [Act.put, List.setIfInBounds_toArray, List.set_cons_zero, List.set_cons_succ]
                        repeat (first
                          | (refine RV.m_held (by rfl) (by rfl) (fun K hK => ?_); go_big_quiet_step (fail); refine wpQuiet_nil ?_; refine hK.out _ ?_; clear hK K)
                          | (refine RV.m_skip (by rfl) ?_; simp only [Act.put, List.setIfInBounds_toArray, List.set_cons_zero, List.set_cons_succ]))
                        refine RV.m_nil ?_
                        intro w9 hA9
                        have HA9 := Lib.hid (show All w.heap.size w (fsL Q (.slice none 0 0) (0) [] ++ foL R S sv fv (.slice (some ⟨ga, 0, none⟩) fl.length ac) (.slice ba fl.length bc) (.slice (some ⟨vg, 0, none⟩) L.length lc) L fl) w9 from hA9)
                        clear hcl hne hA9 HHf HA8
                        obtain ⟨ga2, e, _, _, c0⟩ := hdC_get (B := 0) (fo_a HA9.out) HZ0.out
                        cases e
                        obtain ⟨n0, hn0, hf0⟩ := HLn.out z0 (List.mem_of_getElem? HZ0.out)
                        have HS0 := Lib.hid (setFocus_at HDk.out HA9.out fo_tr z0 n0 hn0)
                        rw [hf0, if_pos rfl, if_pos rfl] at HS0
                        go_wp2_with fail
                        refine HS0.out.mono ?_
                        rintro e w10 ⟨rfl, hA10⟩
                        obtain ⟨ga3, e, _, _, c1⟩ := hdC_get (B := 0) (fo_a hA10) HZ0.out
                        cases e
                        have hk2 := focN_kind HDk.out hn0 hf0
                        have hz00 : z0 ≠ 0 := fun e => by
                          obtain ⟨n, h, hk⟩ := HDk.out.ok.doc
                          rw [e, h] at hn0
                          cases hn0
                          omega
                        obtain ⟨p, hp⟩ := HDk.out.att z0 (by rw [hn0]; rfl) hz00
                        obtain ⟨jj, hjj⟩ := List.mem_iff_getElem?.1 hp
                        have HRm := Lib.hid (rem_all (l1 := fsL Q (.slice none 0 0) (S.hd z0) [] ++ [sl 3 1 (.slice ba fl.length bc) fl.length (hdC S fl), sl 3 1 (.slice (some ⟨ga, 0, none⟩) fl.length ac) fl.length (hdC S fl)]) (l := [sl 3 1 (.slice (some ⟨vg, 0, none⟩) L.length lc) L.length (hdC S L)]) (by simpa [foL] using hA10) HDk.out.lk z0 n0 hn0 (by omega) hjj)
                        have HTk := Lib.hid (show ∀ S', Cutd S S' (K p) p jj z0 → TrOk 1 S' (cutK K p jj) (dCut S d z0) from fun S' hc => HDk.out.ok.cut hjj hc)
                        have HCm := Lib.hid (fun q k => cut_mem HDk.out.lk hjj q k)
                        have HLv := Lib.hid HDk.out.live0
                        clear hA10 HS0 hp hjj hf0 c0
                        go_wp2_with fail
                        refine HRm.out.mono ?_
                        rintro e w11 ⟨S', sv', fv', v', rfl, hc, hA11⟩
                        have hA12 : All w.heap.size w (fsL Q (.slice none 0 0) (S'.hd z0) [] ++ [sl 3 1 (.slice ba fl.length bc) fl.length (hdC S fl), sl 3 1 (.slice (some ⟨ga, 0, none⟩) fl.length ac) fl.length (hdC S fl), trO R S' sv' fv', sl 3 1 (.slice (some ⟨vg, 0, none⟩) L.length lc) L.length (hdC S L)]) w11 := by
                          rw [hc.hd z0]
                          simpa using hA11
                        have hTk := HTk.out S' hc
                        have hn0' := hc.at_ z0
                        rw [hn0] at hn0'
                        have hT' : TAt 0 R S' sv' fv' w11 := hA12.P (trO R S' sv' fv') (by simp)
                        have HFz := Lib.hid (focused_gen (R := R) false false (S'.hd 0) hA12 (by have := (hd_ok hTk.lk hn0').2; simp; omega) (fun wx hb => by
                            have := (hT'.below hb).blk.cell 5
                            simp only [List.getElem?_cons_succ, List.getElem?_cons_zero] at this
                            rw [this, hTk.root]) (fun wx hb => (show Calls Tryz.prog 97 #[.pointer (some ⟨R, 0, none⟩), .int .i64 (S'.hd 0), .int .i64 (S'.hd z0)] wx fun e w' => e = .returned (.bool false) ∧ Below wx.heap.size wx w' from by
                            obtain ⟨nr, hnr⟩ := Option.isSome_iff_exists.1 (show (S'.at 0).isSome = true by rw [hc.at_ 0, Option.isSome_map]; exact HLv.out)
                            have hsb := sub_top hTk.lk (by rw [hn0']; rfl) (fun q hq => ((HCm.out q z0).1 hq).2 rfl) 0
                            unfold subB at hsb
                            have hT2 := hT'.below hb
                            obtain ⟨g, cap, rfl⟩ := slots_some hT2 (by have := at_lt hnr; omega)
                            have := contains_any hT2 hTk.lk 0 z0 nr _ hnr hn0'
                            rw [hsb, show (0 == z0) = false by simpa using fun e => hz00 e.symm] at this
                            exact this)) (fun e => by cases e))
                        have HB11 := Lib.hid hA12.below
                        clear hc hA11 hA12 hTk hT' hn0' HRm HTk
                        go_wp2_with fail
                        refine HFz.out.mono ?_
                        rintro e w12 ⟨rfl, hb12⟩
                        have HB12 := Lib.hid (bthen HB11.out hb12)
                        clear hb12
                        simp only [Bool.and_self, Bool.false_eq_true, if_false]
                        go_wp2_with fail
                        go_ret
                        exact ⟨rfl, HB12.out⟩
  · rw [decide_eq_false hn1] at HFw
    go_enter Tryz.func11, Tryz.ntmps11
    go_wp2_with fail
    refine (HAw.out _ (Below.refl _ _)).mono ?_
    rintro e w1 ⟨rfl, hb1⟩
    go_wp2_with fail
    refine (HFw.out _).mono ?_
    rintro e w2 ⟨rfl, rfl⟩
    go_wp2_with fail
    refine (HAw.out _ hb1).mono ?_
    rintro e w3 ⟨rfl, hb3⟩
    go_wp2_with fail
    go_ret
    exact ⟨rfl, bthen hb1 hb3⟩
end Go.Proofs.YtacdbnhnhdlmpaaGreatDoor.W
end
