/- Texts joined: LwH. -/
import Derived.Test.YtacdbnhnhdlmpaaGreatDoorFH12
import Derived.Deep.CutBlock
set_option maxRecDepth 100000
set_option maxHeartbeats 40000000
set_option linter.unusedVariables false
set_option linter.unusedSimpArgs false
section
namespace Go.Proofs.YtacdbnhnhdlmpaaGreatDoor.W
open Go.RowKit
section
variable {B Q Z R : Nat} {S : Tr} {sv fv va vb lv fa : Value} {L : List Nat} {M : List (Int × Bool)} {X : List FX} {foc : Int} {w0 w : World} {r : Nat} {cs : List Value}
theorem rd_putP {P : List Ob} (h : All B w0 (P ++ rdL Z R S sv fv va vb lv L M) w) {w' : World} (hb : Below w.heap.size w w') {M' : List (Int × Bool)} {va' vb' : Value} (h1 : w'.ownsRow w.heap.size 3 1 va' M'.length (mrN M')) (h2 : w'.ownsRow w.heap.size 4 1 vb' M'.length (mrB M')) :
    All B w0 (P ++ rdL Z R S sv fv va' vb' lv L M') ((w'.setCell ⟨Z, 0, none⟩ va').setCell ⟨Z, 1, none⟩ vb') := by
  have h3 := h.newL hb (L := [sl 3 1 va' M'.length (mrN M'), sl 4 1 vb' M'.length (mrB M')]) (fun o ho => by
    simp only [List.mem_cons, List.not_mem_nil, or_false] at ho
    rcases ho with rfl | rfl
    · exact own_low h1 (Nat.zero_le _)
    · exact own_low h2 (Nat.zero_le _)) (fun o ho => by
    simp only [List.mem_cons, List.not_mem_nil, or_false] at ho
    rcases ho with rfl | rfl
    · exact fun k hk => (h1.lt k hk).1
    · exact fun k hk => (h2.lt k hk).1) (by
    simp only [List.pairwise_cons, List.mem_cons, List.not_mem_nil, or_false, List.Pairwise.nil, and_true, forall_eq, false_implies, implies_true]
    intro k q1 q2
    obtain ⟨c1, e1⟩ := own_ty h1 q1
    obtain ⟨c2, e2⟩ := own_ty h2 q2
    exact blk_ne e1 e2 (by decide) rfl)
  have h4 : All B w0 ([sl 3 1 va' M'.length (mrN M'), sl 4 1 vb' M'.length (mrB M')] ++ (P ++ [bk Z [va, vb] 65, trO R S sv fv, sl 3 1 lv L.length (hdC S L)])) w' := h3.sub (List.Sublist.append_left (List.Sublist.append_left (by
    unfold rdL
    exact ((List.sublist_cons_self _ _).trans (List.sublist_cons_self _ _)).cons_cons _) _) _)
  have h5 : All B w0 ((P ++ [bk Z [va, vb] 65]) ++ ([sl 3 1 va' M'.length (mrN M'), sl 4 1 vb' M'.length (mrB M')] ++ [trO R S sv fv, sl 3 1 lv L.length (hdC S L)])) w' := by
    refine h4.perm ?_
    have : P ++ [bk Z [va, vb] 65, trO R S sv fv, sl 3 1 lv L.length (hdC S L)] = (P ++ [bk Z [va, vb] 65]) ++ [trO R S sv fv, sl 3 1 lv L.length (hdC S L)] := by simp
    rw [this]
    exact List.perm_append_comm_assoc _ _ _
  have h6 : All B w0 (P ++ bk Z [va, vb] 65 :: [sl 3 1 va' M'.length (mrN M'), sl 4 1 vb' M'.length (mrB M'), trO R S sv fv, sl 3 1 lv L.length (hdC S L)]) w' := by simpa using h5
  have h7 := All.setBk P h6 0 va'
  have h8 := All.setBk P h7 1 vb'
  exact h8
theorem clk_put (h : All B w0 (fsL Q fa foc X ++ bk r cs 91 :: rdL Z R S sv fv va vb lv L M) w) {w' : World} (hb : Below w.heap.size w w') {M' : List (Int × Bool)} {va' vb' : Value} (h1 : w'.ownsRow w.heap.size 3 1 va' M'.length (mrN M')) (h2 : w'.ownsRow w.heap.size 4 1 vb' M'.length (mrB M')) :
    All B w0 (fsL Q fa foc X ++ bk r cs 91 :: rdL Z R S sv fv va' vb' lv L M') ((w'.setCell ⟨Z, 0, none⟩ va').setCell ⟨Z, 1, none⟩ vb') := by
  have h3 : All B w0 ((fsL Q fa foc X ++ [bk r cs 91]) ++ rdL Z R S sv fv va vb lv L M) w := by simpa using h
  have h4 := rd_putP h3 hb h1 h2
  simpa using h4
theorem clk_want (h : All B w0 (fsL Q fa foc X ++ bk r [.int .i64 0, .int .i64 0, .int .i64 0] 91 :: rdL Z R S sv fv va vb lv L M) w) (a b c : Int) :
    All B w0 (fsL Q fa foc X ++ bk r [.int .i64 a, .int .i64 b, .int .i64 c] 91 :: rdL Z R S sv fv va vb lv L M) (((w.setCell ⟨r, 0, none⟩ (.int .i64 a)).setCell ⟨r, 1, none⟩ (.int .i64 b)).setCell ⟨r, 2, none⟩ (.int .i64 c)) := by
  have hA1 := All.setBk (fsL Q fa foc X) h 0 (.int .i64 a)
  have hA2 := All.setBk (fsL Q fa foc X) hA1 1 (.int .i64 b)
  exact All.setBk (fsL Q fa foc X) hA2 2 (.int .i64 c)
theorem clk_bk (h : All B w0 (fsL Q fa foc X ++ bk r cs 91 :: rdL Z R S sv fv va vb lv L M) w) : Blk w r cs 91 := h.mid
theorem clk_rd (h : All B w0 (fsL Q fa foc X ++ bk r cs 91 :: rdL Z R S sv fv va vb lv L M) w) : All B w0 (fsL Q fa foc X ++ rdL Z R S sv fv va vb lv L M) w := fs_dropbk h
end
section
variable {S : Tr} {R : Nat} {sv fv : Value} {hd : Int} {a b c : Int} {F : Int → Int} {G : List FX → List FX} {B : Nat} {w0 w : World} {C Q : Nat} {foc : Int} {XC XQ : List FX} {l : List Ob}
theorem clk_one {u : Int → Option Bool} (hc : ClkP S R sv fv hd u a b c F G) (hX : XC.length ≤ 90000) (hu : uX XC = u) {Y : List Ob} (h : ClC B w0 C Q foc foc XC XQ F F G G l [] Y w) (hO : trO R S sv fv ∈ l) :
    Calls Tryz.prog 45 #[.pointer (some ⟨C, 0, none⟩), .pointer (some ⟨R, 0, none⟩), .int .i64 hd] w fun e w' => e = .returned (actV a b c) ∧ ∀ v, ClC B w0 C Q foc foc XC XQ F F G G l [v] Y w' := by
  obtain ⟨fac, faq, h⟩ := h
  have h1 : All B w0 (fsL C fac foc XC ++ (Y ++ (fsL Q faq foc XQ ++ l))) w := h.perm (List.perm_append_comm_assoc _ _ _)
  refine (hc B w0 C fac foc XC _ w hX hu h1 (List.mem_append_right _ (List.mem_append_right _ hO))).mono ?_
  rintro e w' ⟨rfl, fa', h2⟩
  exact ⟨rfl, fun v => ⟨fa', faq, h2.perm (List.perm_append_comm_assoc _ _ _)⟩⟩
theorem clk_two {u : Int → Option Bool} (hc : ClkP S R sv fv hd u a b c F G) (hX : XQ.length ≤ 90000) (hu : uX XQ = u) {Y : List Ob} {v0 : Value} (h : ClC B w0 C Q foc foc XC XQ F F G G l [v0] Y w) (hO : trO R S sv fv ∈ l) :
    Calls Tryz.prog 45 #[.pointer (some ⟨Q, 0, none⟩), .pointer (some ⟨R, 0, none⟩), .int .i64 hd] w fun e w' => e = .returned (actV a b c) ∧ ∀ v v2, ClC B w0 C Q foc foc XC XQ F F G G l [v, v2] Y w' := by
  obtain ⟨fac, faq, h⟩ := h
  have hp : (Y ++ (fsL C fac (F foc) (G XC) ++ (fsL Q faq foc XQ ++ l))).Perm (fsL Q faq foc XQ ++ (Y ++ (fsL C fac (F foc) (G XC) ++ l))) := by
    refine (List.Perm.append_left Y (List.perm_append_comm_assoc _ _ _)).trans ?_
    exact List.perm_append_comm_assoc _ _ _
  refine (hc B w0 Q faq foc XQ _ w hX hu (h.perm hp) (List.mem_append_right _ (List.mem_append_right _ hO))).mono ?_
  rintro e w' ⟨rfl, fa', h2⟩
  refine ⟨rfl, fun v v2 => ⟨fac, fa', h2.perm ?_⟩⟩
  refine (List.perm_append_comm_assoc _ _ _).trans ?_
  exact List.Perm.append_left Y (List.perm_append_comm_assoc _ _ _)
end
set_option maxRecDepth 100000 in
set_option maxHeartbeats 40000000 in
theorem clicks_any (w : World) (hT : Laid w) (A1 : Option Addr) (n1 c1 : Nat) (f1 : Nat → PtF) (h1 : InPt w A1 n1 f1) (hf1 : ∀ j, (f1 j).In) (A2 : Option Addr) (n2 c2 : Nat) (f2 : Nat → Int) (h2 : InB w A2 n2 f2) (hf2 : ∀ j, 0 ≤ f2 j ∧ f2 j ≤ 255) :
    Calls Tryz.prog 9 #[.slice A1 n1 c1, .slice A2 n2 c2] w fun e w' => e = .returned (.bool true) ∧ Below w.heap.size w w' := by
  have hL : ∀ wx, Below w.heap.size w wx → Laid wx := fun wx hb => hT.below hb
  have HL := Lib.hid hL
  have HAw := Lib.hid (fun wx (hb : Below w.heap.size w wx) => awake_any wx (hT.below hb))
  have HP := Lib.hid (fun wx (hb : Below w.heap.size w wx) => h1.below hb)
  have HMi := Lib.hid (fun wx (hb : Below w.heap.size w wx) => h2.below hb)
  have HF1 := Lib.hid hf1
  have HF2 := Lib.hid hf2
  have HFw := Lib.hid (fun wx => fewp_any A1 n1 c1 wx)
  clear hT hL h1 h2 hf1 hf2
  by_cases hn1 : n1 ≤ 25
  · rw [decide_eq_true hn1] at HFw
    by_cases hn2 : n2 ≤ 40
    · have d2 : decide (40 < n2) = false := by simp; omega
      have d2' : decide ((40 : Int) < (n2 : Int)) = false := by simp; omega
      go_enter Tryz.func9, Tryz.ntmps9
      go_wp2_with fail
      refine (HAw.out _ (Below.refl _ _)).mono ?_
      rintro e w1 ⟨rfl, hb1⟩
      go_wp2_with fail
      refine (HFw.out _).mono ?_
      rintro e w2 ⟨rfl, rfl⟩
      have HDo := Lib.hid (document_any ((All.start w).still hb1) HL.out A1 n1 c1 f1 HP.out hn1 HF1.out)
      clear hb1 HFw HAw
      go_wp2_with fail
      refine HDo.out.mono ?_
      rintro e w3 ⟨R, S, sv, fv, K, d, L, lv, rfl, hA3, hD, hLl⟩
      have hA5 := rd_start ((hA3.newBkA w3.heap.size rfl [.slice none 0 0, .int .i64 0] 30).newBkA (w3.heap.size + 1) (by simp) [.slice none 0 0, .slice none 0 0] 65)
      obtain ⟨la, lc, rfl⟩ := own_shape (rd_row hA5)
      have HA5 := Lib.hid hA5
      have HD := Lib.hid hD
      have HLl := Lib.hid hLl
      clear hA3 hA5 hD hLl HDo
      by_cases hn0 : n1 = 0
      · obtain rfl : L = [] := List.eq_nil_of_length_eq_zero (by rw [HLl.out]; exact hn0)
        have HB5 := Lib.hid HA5.out.below
        clear HLl HD HA5 hn0
        simp only [List.length_nil]
        go_wp2_with fail
        go_loopw [40] (fun iv wr => ∃ k : Nat, k ≤ n2 ∧ iv = .int .i64 (k : Int) ∧ Below w.heap.size w wr) (fun iv _ => n2 - (intOf iv).toNat)
        case atStart => exact ⟨0, by omega, rfl, HB5.out⟩
        case round =>
          obtain ⟨k, hk, rfl, hb⟩ := hrel
          have HB := Lib.hid hb
          clear hb
          by_cases hkl : k < n2
          · go_wp2_with fail
            go_ret
            exact ⟨rfl, HB.out⟩
          · obtain rfl : k = n2 := by omega
            go_wp2_with fail
            go_ret
            exact ⟨rfl, HB.out⟩
      · have hLp : 0 < L.length := by rw [HLl.out]; omega
        have hLb : L.length ≤ 25 := by rw [HLl.out]; exact hn1
        have hL0 : ¬ (L.length : Int) = 0 := by omega
        have gL0 : ((L.length : Int) == 0) = false := beq_eq_false_iff_ne.2 hL0
        have HEl := Lib.hid HD.out.el
        have HDk := Lib.hid HD.out.ok
        have HM0 := Lib.hid (MkOk.start (S := S) (K := K) (d := d))
        clear HLl hn0 HD
        go_wp2_with fail
        generalize w3.heap.size + 1 = Z at *
        generalize w3.heap.size = Q at *
        go_loopw [40] (fun iv wr => ∃ (k : Nat) (X : List FX) (fa va vb : Value) (M : List (Int × Bool)) (foc : Int), k ≤ n2 ∧ iv = .int .i64 (k : Int) ∧ MkOk S K d X M ∧ PlX X ∧ X.length ≤ 101 * k ∧ M.length ≤ 101 * k ∧ All w.heap.size w (fsL Q fa foc X ++ rdL Z R S sv fv va vb (.slice la L.length lc) L M) wr) (fun iv _ => n2 - (intOf iv).toNat)
        case atStart => exact ⟨0, [], _, _, _, [], 0, Nat.zero_le _, rfl, HM0.out, fun x hx => (by cases hx), Nat.zero_le _, Nat.zero_le _, HA5.out⟩
        case round =>
          obtain ⟨k, X, fa, va, vb, M, foc, hk2, rfl, hmk, hpl, hXl, hMl, hA⟩ := hrel
          by_cases hkl : k < n2
          · obtain ⟨na, nc, rfl⟩ := own_shapeB (rd_mk hA).nodes
            obtain ⟨oa, oc, rfl⟩ := own_shapeB (rd_mk hA).on
            obtain ⟨gm, off, rfl, hgm, hc⟩ := HMi.out _ hA.below (by omega)
            have q0 := hc k hkl
            obtain ⟨hm1, hm2⟩ := HF2.out k
            obtain ⟨ma, hma⟩ : ∃ ma : Nat, f2 k = (ma : Int) := ⟨(f2 k).toNat, by omega⟩
            rw [hma] at q0
            obtain ⟨j, hj⟩ : ∃ j, ma % L.length = j := ⟨_, rfl⟩
            have hjL : j < L.length := by rw [← hj]; exact Nat.mod_lt _ hLp
            have hma2 : ma ≤ 255 := by omega
            have hmj : Int.tmod (ma : Int) (L.length : Int) = (j : Int) := by rw [← hj]; exact tmod_nat ma L.length
            have hjL2 : (j : Int) < (L.length : Int) := by omega
            obtain ⟨q, hq⟩ : ∃ q, L[j]? = some q := ⟨_, List.getElem?_eq_getElem hjL⟩
            obtain ⟨nq, hnq, _⟩ := HEl.out q (List.mem_of_getElem? hq)
            obtain ⟨vg, e, _, hvc, ck⟩ := hdC_get (B := 0) (rd_row hA) hq
            subst e
            have HAt := Lib.hid (attr_at (rd_tree hA) HDk.out.lk q nq hnq (HDk.out.al q nq hnq) sDisabled)
            obtain ⟨a, b, c, F, G, M2, hclk, hcase, hres, ha3⟩ := clk_all (R := R) (sv := sv) (fv := fv) HDk.out hnq hmk hpl
            have hcf := HDk.out
            have HSo := Lib.hid (fun wx (h : TAt 0 R S sv fv wx) => sowner_any h hcf.lk hcf.al hcf.nm q nq hnq)
            have HSk := Lib.hid (fun wx (h : TAt 0 R S sv fv wx) => skind_any h hcf.lk q nq hnq (hcf.al q nq hnq) (hcf.nm q nq hnq))
            have HMc := Lib.hid (fun wx (va vb : Value) (M : List (Int × Bool)) (h : TAt 0 R S sv fv wx) (hm : MkAt wx va vb M) (hl : M.length ≤ 100000) => mchecked_any hcf h hm hl q nq hnq)
            have HMs := Lib.hid (fun wx (va vb : Value) (M : List (Int × Bool)) (h : TAt 0 R S sv fv wx) (hm : MkAt wx va vb M) (hl : M.length ≤ 100000) (on : Bool) => mset_any hcf h hm hl q nq hnq on)
            have HCk := Lib.hid (fun wx (Q : Nat) (fa : Value) (foc : Int) (X : List FX) (l : List Ob) (h : All w.heap.size w (fsL Q fa foc X ++ l) wx) (hO : trO R S sv fv ∈ l) (hX : X.length ≤ 100000) => checked_any hcf h hO q nq hnq hX)
            have HFc := Lib.hid (fun wx (fa : Value) (X : List FX) (l : List Ob) (h : All w.heap.size w (fsL Q fa (S.hd q) X ++ l) wx) (hO : trO R S sv fv ∈ l) (hk : kindN nq = 1 ∨ kindN nq = 2) (hd : attV nq sDisabled = none) => focused_any hcf q nq h hO hnq hk hd)
            have HA := Lib.hid hA
            have HPl := Lib.hid hpl
            have HClk := Lib.hid hclk
            have HRes := Lib.hid hres
            have HA3 := Lib.hid ha3
            have heq := hmk.eq
            have HEq := Lib.hid heq
            have hisk : isCk nq = (kindN nq == 3 || kindN nq == 4) := rfl
            have HIsk := Lib.hid hisk
            generalize hO S (ownI S d q) = ow at *
            obtain ⟨cv, hcv⟩ : ∃ cv, chkd (gH S K d) (rdH S) (atH S) (uX X) (S.hd q) = cv := ⟨_, rfl⟩
            rw [hcv] at hcase
            have HCv := Lib.hid hcv
            obtain ⟨kx, hkx⟩ : ∃ kx, kindN nq = kx := ⟨_, rfl⟩
            rw [hkx] at hcase HSk
            have HKx := Lib.hid hkx
            obtain ⟨dis, hdis⟩ : ∃ dis, (attV nq sDisabled).isSome = dis := ⟨_, rfl⟩
            rw [hdis] at hcase HAt
            have HCase := Lib.hid hcase
            generalize (attV nq sDisabled).getD [] = dv at *
            clear hc hma hj hq hnq hgm hmk hpl hclk hcase hres ha3 hcf heq hisk hcv hkx hdis hA hm1 hm2
            go_wp2_with fail
            refine HAt.out.mono ?_
            rintro e w7 ⟨rfl, hb7⟩
            have hA8 := fs_newbk (HA.out.still hb7) w7.heap.size rfl [.int .i64 0, .int .i64 0, .int .i64 0] 91
            have HA8 := Lib.hid hA8
            clear hb7 hA8 HAt HA ck q0
            go_upto_region 14 with fail
            generalize w7.alloc (.cells #[.int .i64 0, .int .i64 0, .int .i64 0] 91) = w8 at *
            generalize w7.heap.size = r at *
            have kz := rd_bk (clk_rd HA8.out)
            have z0 := kz.cell 0
            have z1 := kz.cell 1
            simp only [List.getElem?_cons_succ, List.getElem?_cons_zero] at z0 z1
            have hmc := HMc.out w8 _ _ _ (rd_tree (clk_rd HA8.out)) (rd_mk (clk_rd HA8.out)) (by omega)
            rw [← HEq.out, HCv.out] at hmc
            have HM8 := Lib.hid hmc
            clear kz hmc
            go_wp2_with fail
            refine HM8.out.mono ?_
            rintro e w9 ⟨rfl, hb9⟩
            have HA9 := Lib.hid (HA8.out.still hb9)
            have HO9 := Lib.hid (HSo.out _ (rd_tree (clk_rd HA9.out)))
            clear hb9 HM8 HA8 z0 z1 HSo
            go_wp2_with fail
            refine HO9.out.mono ?_
            rintro e w10 ⟨rfl, hb10⟩
            have HA10 := Lib.hid (HA9.out.still hb10)
            have HK10 := Lib.hid (HSk.out _ (rd_tree (clk_rd HA10.out)))
            clear hb10 HO9 HA9 HSk
            go_wp2_with fail
            refine HK10.out.mono ?_
            rintro e w11 ⟨rfl, hb11⟩
            have HA11 := Lib.hid (HA10.out.still hb11)
            clear hb11 HK10 HA10
            go_upto_block 2 with fail
            go_cut [] (fun wx => ∃ va' vb', All w.heap.size w (fsL Q fa foc X ++ bk r [.int .i64 a, .int .i64 b, .int .i64 c] 91 :: rdL Z R S sv fv va' vb' (.slice (some ⟨vg, 0, none⟩) L.length lc) L M2) wx)
            case first =>
              have hcase := HCase.out
              clear HClk HRes HA3 HEq HIsk HCk HFc HMc HPl HCase HL HP HMi HF1 HF2
              cases hcase with
              | none h =>
                by_cases h0 : kx = 0
                · have e0 : ((kx : Int) == 0) = true := by simp [h0]
                  as_aux_lemma =>
                    go_wp2_with fail
                    go_meet
                    exact ⟨_, _, HA11.out⟩
                · have e0 : ((kx : Int) == 0) = false := by simp; omega
                  obtain rfl : dis = true := by rcases h with e | e; exact absurd e h0; exact e
                  as_aux_lemma =>
                    go_wp2_with fail
                    go_meet
                    exact ⟨_, _, HA11.out⟩
              | ck h0 h =>
                subst h0
                have kz := rd_bk (clk_rd HA11.out)
                have z0 := kz.cell 0
                have z1 := kz.cell 1
                simp only [List.getElem?_cons_succ, List.getElem?_cons_zero] at z0 z1
                rw [HCv.out] at *
                have HS11 := Lib.hid (HMs.out w11 _ _ _ (rd_tree (clk_rd HA11.out)) (rd_mk (clk_rd HA11.out)) (by omega) (!cv))
                generalize setM (gH S K d) (rdH S) M (S.hd q) (!cv) = M3 at *
                clear kz HMs
                rcases h with rfl | ⟨rfl, rfl⟩
                · as_aux_lemma =>
                    go_wp2_with fail
                    refine HS11.out.mono ?_
                    rintro e w12 ⟨va', vb', rfl, r1, r2, hb12⟩
                    obtain ⟨a1, b1, rfl⟩ := own_shapeB r1
                    obtain ⟨a2, b2, rfl⟩ := own_shapeB r2
                    have hA13 := clk_put HA11.out hb12 r1 r2
                    have kz := rd_bk (clk_rd (HA11.out.still hb12))
                    have z0 := kz.cell 0
                    have z1 := kz.cell 1
                    have g0 := kz.free 0
                    have g1 := kz.free 1
                    simp only [List.getElem?_cons_succ, List.getElem?_cons_zero] at z0 z1
                    have HA13 := Lib.hid hA13
                    clear kz r1 r2 hb12 hA13 HA11 HS11
                    go_upto_region 20 with fail
                    generalize (w12.setCell ⟨Z, 0, none⟩ (.slice a1 M3.length b1)).setCell ⟨Z, 1, none⟩ (.slice a2 M3.length b2) = w13 at *
                    clear z0 z1 g0 g1
                    have kb := clk_bk HA13.out
                    have x0 := kb.cell 0
                    have x1 := kb.cell 1
                    have x2 := kb.cell 2
                    have f0 := kb.free 0
                    have f1' := kb.free 1
                    have f2' := kb.free 2
                    simp only [List.getElem?_cons_succ, List.getElem?_cons_zero] at x0 x1 x2
                    clear kb
                    go_wp2_with fail
                    go_meet
                    exact ⟨_, _, clk_want HA13.out _ _ _⟩
                · as_aux_lemma =>
                    go_wp2_with fail
                    refine HS11.out.mono ?_
                    rintro e w12 ⟨va', vb', rfl, r1, r2, hb12⟩
                    obtain ⟨a1, b1, rfl⟩ := own_shapeB r1
                    obtain ⟨a2, b2, rfl⟩ := own_shapeB r2
                    have hA13 := clk_put HA11.out hb12 r1 r2
                    have kz := rd_bk (clk_rd (HA11.out.still hb12))
                    have z0 := kz.cell 0
                    have z1 := kz.cell 1
                    have g0 := kz.free 0
                    have g1 := kz.free 1
                    simp only [List.getElem?_cons_succ, List.getElem?_cons_zero] at z0 z1
                    have HA13 := Lib.hid hA13
                    clear kz r1 r2 hb12 hA13 HA11 HS11
                    go_upto_region 20 with fail
                    generalize (w12.setCell ⟨Z, 0, none⟩ (.slice a1 M3.length b1)).setCell ⟨Z, 1, none⟩ (.slice a2 M3.length b2) = w13 at *
                    clear z0 z1 g0 g1
                    have kb := clk_bk HA13.out
                    have x0 := kb.cell 0
                    have x1 := kb.cell 1
                    have x2 := kb.cell 2
                    have f0 := kb.free 0
                    have f1' := kb.free 1
                    have f2' := kb.free 2
                    simp only [List.getElem?_cons_succ, List.getElem?_cons_zero] at x0 x1 x2
                    clear kb
                    go_wp2_with fail
                    go_meet
                    exact ⟨_, _, clk_want HA13.out _ _ _⟩
              | sub h0 h ho =>
                subst h0 h
                have eo := (bne_iff_ne (b := (0 : Int))).2 ho
                have kb := clk_bk HA11.out
                have x0 := kb.cell 0
                have x1 := kb.cell 1
                have x2 := kb.cell 2
                have f0 := kb.free 0
                have f1' := kb.free 1
                have f2' := kb.free 2
                simp only [List.getElem?_cons_succ, List.getElem?_cons_zero] at x0 x1 x2
                clear kb
                as_aux_lemma =>
                  go_wp2_with fail
                  go_meet
                  exact ⟨_, _, clk_want HA11.out _ _ _⟩
              | subn h0 h ho =>
                subst h0 h ho
                as_aux_lemma =>
                  go_wp2_with fail
                  go_meet
                  exact ⟨_, _, HA11.out⟩
              | tx h0 h =>
                subst h0
                have kb := clk_bk HA11.out
                have x0 := kb.cell 0
                have x1 := kb.cell 1
                have x2 := kb.cell 2
                have f0 := kb.free 0
                have f1' := kb.free 1
                have f2' := kb.free 2
                simp only [List.getElem?_cons_succ, List.getElem?_cons_zero] at x0 x1 x2
                clear kb
                rcases h with rfl | rfl
                · as_aux_lemma =>
                    go_wp2_with fail
                    go_meet
                    exact ⟨_, _, clk_want HA11.out _ _ _⟩
                · as_aux_lemma =>
                    go_wp2_with fail
                    go_meet
                    exact ⟨_, _, clk_want HA11.out _ _ _⟩
              | els h0 h hc =>
                subst h0
                by_cases h4 : kx = 4
                · have hcv := hc h4
                  subst h4 hcv
                  as_aux_lemma =>
                    go_wp2_with fail
                    go_meet
                    exact ⟨_, _, HA11.out⟩
                · obtain ⟨n0, n1', n2', n3, n6⟩ := h
                  have e0 : ((kx : Int) == 0) = false := by simp; omega
                  have e1 : ((kx : Int) == 1) = false := by simp; omega
                  have e2 : ((kx : Int) == 2) = false := by simp; omega
                  have e3 : ((kx : Int) == 3) = false := by simp; omega
                  have e4 : ((kx : Int) == 4) = false := by simp; omega
                  have e6 : ((kx : Int) == 6) = false := by simp; omega
                  as_aux_lemma =>
                    go_wp2_with fail
                    go_meet
                    exact ⟨_, _, HA11.out⟩
            case rest =>
              obtain ⟨va', vb', hA12⟩ := hcut
              obtain ⟨na', nc', rfl⟩ := own_shapeB (rd_mk (clk_rd hA12)).nodes
              obtain ⟨oa', oc', rfl⟩ := own_shapeB (rd_mk (clk_rd hA12)).on
              have HCl := Lib.hid (doc_clone hA12 HPl.out (by omega))
              have HR := HRes.out
              have hxl2 := HR.xl
              have hml2 := HR.ml
              clear hA12 HA11 HMs HCase HR HP HMi HF1 HF2
              go_wp2_with fail
              refine HCl.out.mono ?_
              rintro e w13 ⟨fc', X', rfl, hux, hxl, ⟨ca, cn, cc, rfl⟩, hA14⟩
              have HA14 := Lib.hid hA14
              clear hA14 HCl
              go_upto_region 27 with fail
              generalize w13.alloc (.cells #[.slice ca cn cc, .int .i64 foc] 30) = w14 at *
              generalize w13.heap.size = C at *
              have HX' := Lib.hid hux
              have hXb : X.length ≤ 90000 := by omega
              have hXb' : X'.length ≤ 90000 := by omega
              have hO : trO R S sv fv ∈ bk r [.int .i64 a, .int .i64 b, .int .i64 c] 91 :: rdL Z R S sv fv (.slice na' M2.length nc') (.slice oa' M2.length oc') (.slice (some ⟨vg, 0, none⟩) L.length lc) L M2 := List.mem_cons_of_mem _ rd_tr
              have HOm := Lib.hid hO
              have hne : Nonempty (InS (ClS r a b c)) := ⟨⟨w14, HA14.out.P (bk r [.int .i64 a, .int .i64 b, .int .i64 c] 91) (by simp)⟩⟩
              have y0 := fun (x : InS (ClS r a b c)) => Blk.cell (show Blk x.w r [.int .i64 a, .int .i64 b, .int .i64 c] 91 from x.h) 0
              have y1 := fun (x : InS (ClS r a b c)) => Blk.cell (show Blk x.w r [.int .i64 a, .int .i64 b, .int .i64 c] 91 from x.h) 1
              have y2 := fun (x : InS (ClS r a b c)) => Blk.cell (show Blk x.w r [.int .i64 a, .int .i64 b, .int .i64 c] 91 from x.h) 2
              simp only [List.getElem?_cons_succ, List.getElem?_cons_zero] at y0 y1 y2
              clear hux hxl hO
              refine RV.reg_m (⟨ClS r a b c, fun k Y w' => ClC w.heap.size w C Q foc foc X' X F F G G (bk r [.int .i64 a, .int .i64 b, .int .i64 c] 91 :: rdL Z R S sv fv (.slice na' M2.length nc') (.slice oa' M2.length oc') (.slice (some ⟨vg, 0, none⟩) L.length lc) L M2) k Y w', fun _ v => v = actV a b c, fun _ _ => undef, fun _ => [], fun _ => 0⟩ : RV.Pl) 12 (by kernel_rfl) (by kernel_rfl) (fun k Y w' h => clC_mem h List.mem_cons_self) (fun k Y w' cs ty h => clC_new h cs ty) (fun k Y Y2 w' hp h => clC_perm hp h) ⟨_, _, HA14.out.still ((Below.refl _ _).drew)⟩ ?_
              simp only [List.take_succ_cons, List.take_zero, List.drop_succ_cons, List.drop_zero]
              repeat (first
                | (refine RV.m_held (by rfl) (by rfl) (fun K hK => ?_); go_big_quiet_step (fail); refine wpQuiet_nil ?_; refine hK.out _ ?_; clear hK K)
                | (refine RV.m_skip (by rfl) ?_; simp only [Act.put, List.setIfInBounds_toArray, List.set_cons_zero, List.set_cons_succ]))
              refine RV.m_call (by rfl) (by rfl) (fun w => by go_simp; exact ⟨rfl, rfl⟩) (⟨_, rfl⟩) (fun X wx hx => ?_) (fun v hv => ?_)
              · refine (clk_one HClk.out hXb' HX'.out hx HOm.out).mono ?_
                rintro e wy ⟨rfl, hb⟩
                exact ⟨_, rfl, rfl, hb (actV a b c)⟩
              obtain rfl : v = actV a b c := hv
              simp only [actV]
              simp only [Act.put, List.setIfInBounds_toArray, List.set_cons_zero, List.set_cons_succ]
              repeat (first
                | (refine RV.m_held (by rfl) (by rfl) (fun K hK => ?_); go_big_quiet_step (fail); refine wpQuiet_nil ?_; refine hK.out _ ?_; clear hK K)
                | (refine RV.m_skip (by rfl) ?_; simp only [Act.put, List.setIfInBounds_toArray, List.set_cons_zero, List.set_cons_succ]))
              refine RV.m_call (by rfl) (by rfl) (fun w => by go_simp; exact ⟨rfl, rfl⟩) (⟨_, rfl⟩) (fun X wx hx => ?_) (fun v hv => ?_)
              · refine (clk_two (v0 := actV a b c) HClk.out hXb rfl hx HOm.out).mono ?_
                rintro e wy ⟨rfl, hb⟩
                exact ⟨_, rfl, rfl, hb (actV a b c) (actV a b c)⟩
              obtain rfl : v = actV a b c := hv
              simp only [actV]
              simp only [Act.put, List.setIfInBounds_toArray, List.set_cons_zero, List.set_cons_succ]
              repeat (first
                | (refine RV.m_held (by rfl) (by rfl) (fun K hK => ?_); go_big_quiet_step (fail); refine wpQuiet_nil ?_; refine hK.out _ ?_; clear hK K)
                | (refine RV.m_skip (by rfl) ?_; simp only [Act.put, List.setIfInBounds_toArray, List.set_cons_zero, List.set_cons_succ]))
              refine RV.m_nil ?_
              intro w15 hC15
              obtain ⟨fac, faq, h15⟩ := hC15
              have hA15 : All w.heap.size w (fsL Q faq (F foc) (G X) ++ bk r [.int .i64 a, .int .i64 b, .int .i64 c] 91 :: rdL Z R S sv fv (.slice na' M2.length nc') (.slice oa' M2.length oc') (.slice (some ⟨vg, 0, none⟩) L.length lc) L M2) w15 := h15.sub (List.sublist_append_right _ _)
              have HA15 := Lib.hid hA15
              clear h15 hA15 y0 y1 y2 hne HA14 HClk HX' HOm
              have hck := HCk.out w15 Q faq (F foc) (G X) _ (clk_rd HA15.out) rd_tr (by omega)
              rw [HIsk.out, HKx.out] at hck
              have HC15 := Lib.hid hck
              clear hck HCk
              by_cases h34 : kx = 3 ∨ kx = 4
              · have eb : (kx == 3 || kx == 4) = true := by simpa using h34
                rw [eb, if_pos rfl, if_pos rfl, HRes.out.ok.eq] at HC15
                have ha : a ≠ 3 := fun e => by
                  have := (HA3.out e).1
                  rw [HKx.out] at this
                  omega
                have ea : (a == 3) = false := by simpa using ha
                have HMc2 := Lib.hid (fun wx h hm => HMc.out wx (.slice na' M2.length nc') (.slice oa' M2.length oc') M2 h hm (by omega))
                generalize chkd (gH S K d) (rdH S) (atH S) (lastM M2) (S.hd q) = c2 at *
                clear eb ha HMc HFc
                rcases h34 with rfl | rfl
                · as_aux_lemma =>
                    go_wp2_with fail
                    refine HC15.out.mono ?_
                    rintro e w16 ⟨rfl, hb16⟩
                    have HA16 := Lib.hid (HA15.out.still hb16)
                    have HM16 := Lib.hid (HMc2.out w16 (rd_tree (clk_rd HA16.out)) (rd_mk (clk_rd HA16.out)))
                    have kz := rd_bk (clk_rd HA16.out)
                    have z0 := kz.cell 0
                    have z1 := kz.cell 1
                    simp only [List.getElem?_cons_succ, List.getElem?_cons_zero] at z0 z1
                    clear hb16 HC15 HA15 kz HMc2
                    go_wp2_with fail
                    refine HM16.out.mono ?_
                    rintro e w17 ⟨rfl, hb17⟩
                    have HA17 := Lib.hid (HA16.out.still hb17)
                    have kb := clk_bk HA17.out
                    have x0 := kb.cell 0
                    simp only [List.getElem?_cons_succ, List.getElem?_cons_zero] at x0
                    clear hb17 HM16 HA16 kb z0 z1
                    go_wp2_with fail
                    go_roundw
                    case rel => exact ⟨k + 1, G X, faq, _, _, M2, F foc, by omega, by go_num, HRes.out.ok, HRes.out.pl, by omega, by omega, clk_rd HA17.out⟩
                    case measure => simp [intOf]; omega
                · as_aux_lemma =>
                    go_wp2_with fail
                    refine HC15.out.mono ?_
                    rintro e w16 ⟨rfl, hb16⟩
                    have HA16 := Lib.hid (HA15.out.still hb16)
                    have HM16 := Lib.hid (HMc2.out w16 (rd_tree (clk_rd HA16.out)) (rd_mk (clk_rd HA16.out)))
                    have kz := rd_bk (clk_rd HA16.out)
                    have z0 := kz.cell 0
                    have z1 := kz.cell 1
                    simp only [List.getElem?_cons_succ, List.getElem?_cons_zero] at z0 z1
                    clear hb16 HC15 HA15 kz HMc2
                    go_wp2_with fail
                    refine HM16.out.mono ?_
                    rintro e w17 ⟨rfl, hb17⟩
                    have HA17 := Lib.hid (HA16.out.still hb17)
                    have kb := clk_bk HA17.out
                    have x0 := kb.cell 0
                    simp only [List.getElem?_cons_succ, List.getElem?_cons_zero] at x0
                    clear hb17 HM16 HA16 kb z0 z1
                    go_wp2_with fail
                    go_roundw
                    case rel => exact ⟨k + 1, G X, faq, _, _, M2, F foc, by omega, by go_num, HRes.out.ok, HRes.out.pl, by omega, by omega, clk_rd HA17.out⟩
                    case measure => simp [intOf]; omega
              · have eb : (kx == 3 || kx == 4) = false := by simpa using h34
                rw [eb, if_neg (by simp), if_neg (by simp)] at HC15
                have e3 : ((kx : Int) == 3) = false := by simp; omega
                have e4 : ((kx : Int) == 4) = false := by simp; omega
                clear eb h34 HMc
                go_wp2_with fail
                refine HC15.out.mono ?_
                rintro e w16 ⟨rfl, hb16⟩
                have HA16 := Lib.hid (HA15.out.still hb16)
                have kb := clk_bk HA16.out
                have z0 := kb.cell 0
                simp only [List.getElem?_cons_succ, List.getElem?_cons_zero] at z0
                clear hb16 HC15 HA15 kb
                by_cases ha : a = 3
                · obtain ⟨g1, g2, g3⟩ := HA3.out ha
                  have hfo := HA16.out
                  rw [g3] at hfo
                  have HF16 := Lib.hid (HFc.out w16 faq (G X) _ hfo (List.mem_cons_of_mem _ rd_tr) g1 g2)
                  subst ha
                  clear hfo g1 g2
                  as_aux_lemma =>
                    go_wp2_with fail
                    refine HF16.out.mono ?_
                    rintro e w17 ⟨rfl, hb17⟩
                    have HA17 := Lib.hid (HA16.out.still hb17)
                    clear hb17 HF16 HA16
                    go_wp2_with fail
                    go_roundw
                    case rel => exact ⟨k + 1, G X, faq, _, _, M2, F foc, by omega, by go_num, HRes.out.ok, HRes.out.pl, by omega, by omega, clk_rd HA17.out⟩
                    case measure => simp [intOf]; omega
                · have ea : (a == 3) = false := by simpa using ha
                  as_aux_lemma =>
                    go_wp2_with fail
                    go_roundw
                    case rel => exact ⟨k + 1, G X, faq, _, _, M2, F foc, by omega, by go_num, HRes.out.ok, HRes.out.pl, by omega, by omega, clk_rd HA16.out⟩
                    case measure => simp [intOf]; omega
          · obtain rfl : k = n2 := by omega
            have HB := Lib.hid hA.below
            clear hA hmk hpl HA5
            go_wp2_with fail
            go_ret
            exact ⟨rfl, HB.out⟩
    · have d2 : decide (40 < n2) = true := by simp; omega
      have d2' : decide ((40 : Int) < (n2 : Int)) = true := by simp; omega
      go_enter Tryz.func9, Tryz.ntmps9
      go_wp2_with fail
      refine (HAw.out _ (Below.refl _ _)).mono ?_
      rintro e w1 ⟨rfl, hb1⟩
      go_wp2_with fail
      refine (HFw.out _).mono ?_
      rintro e w2 ⟨rfl, rfl⟩
      go_wp2_with fail
      refine (HAw.out _ hb1).mono ?_
      rintro e w3 ⟨rfl, hb3⟩
      go_wp2_with fail
      go_ret
      exact ⟨rfl, bthen hb1 hb3⟩
  · rw [decide_eq_false hn1] at HFw
    go_enter Tryz.func9, Tryz.ntmps9
    go_wp2_with fail
    refine (HAw.out _ (Below.refl _ _)).mono ?_
    rintro e w1 ⟨rfl, hb1⟩
    go_wp2_with fail
    refine (HFw.out _).mono ?_
    rintro e w2 ⟨rfl, rfl⟩
    go_wp2_with fail
    refine (HAw.out _ hb1).mono ?_
    rintro e w3 ⟨rfl, hb3⟩
    go_wp2_with fail
    go_ret
    exact ⟨rfl, bthen hb1 hb3⟩
end Go.Proofs.YtacdbnhnhdlmpaaGreatDoor.W
end
