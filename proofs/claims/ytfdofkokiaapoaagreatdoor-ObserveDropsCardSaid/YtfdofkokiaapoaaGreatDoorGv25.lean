/- Texts joined: DvO LaidW. -/
import Derived.Test.YtfdofkokiaapoaaGreatDoorGv23
import Derived.Test.YtfdofkokiaapoaaGreatDoorGv24
import Derived.Test.YtfdofkokiaapoaaGreatDoorGv7
import Derived.Test.YtfdofkokiaapoaaGreatDoorGv18
import Derived.Test.YtfdofkokiaapoaaGreatDoorCards
import Derived.Test.YtfdofkokiaapoaaGreatDoorTie
import Derived.Shelf.Vars
import Derived.Lib.LaidU8T
import Derived.Shelf.Unicode.ValidAny
import Derived.Lib.LaidIn
import Derived.Deep.DeepHandedRow
import Derived.Deep.DeepWitnessRowRef
import Derived.SizedLaws
section
/- The law ObserveDelivers. -/
namespace Go.Proofs.YtfdofkokiaapoaaGreatDoor.W
open Go.RowKit
set_option linter.unusedVariables false
set_option linter.unusedSimpArgs false

def DlR (w : World) (f : Nat → Pl4) (pn n N : Nat) (S : Tr) (g1 zg zc : Nat) (fs : List Fl) (R : Nat) (sv fv lv : Value) (Z : List Ob) (iv : Value) (wr : World) : Prop :=
  ∃ (i : Nat) (S' : Tr) (K' : Nat → List Nat) (d' : Nat → Nat) (zs : List Oz), i ≤ n ∧ iv = .int .i64 (i : Int) ∧ zs.length = 3 ∧ (∀ (j : Nat) (x : Oz), zs[j]? = some x → DsK (hds S N) f pn fs false n i j x ∧ x.1.cb = 100 + (j : Int)) ∧
    Dc S' K' d' N ∧ S'.b = S.b ∧ S'.s = S.s ∧ All w.heap.size w (trO R S' sv fv :: gl lv (hds S N) :: (stF g1 (.slice (some ⟨zg, 0, none⟩) 3 zc) 3 zs ++ (fo fs :: Z))) wr
/-- the deliveries -/
def DlT (w : World) (g1 zg zc g13 yg yc : Nat) (lv : Value) (wr : World) : Prop :=
  ∃ (L : Nat) (zs ys : List Oz) (l' : List Ob), L ≤ 3 ∧ lv = .int .i64 (L : Int) ∧ zs.length = 3 ∧ ys.length = 3 ∧ (∀ (j : Nat) (x y : Oz), zs[j]? = some x → ys[j]? = some y → x.1.id = (j : Int) + 1 ∧ x.1.cb = 100 + (j : Int) ∧ y.1.id = (j : Int) + 1 ∧ y.1.rs = x.1.rs ∧ x.1.rs.length ≤ 1000 ∧ (j < L → x.1.rs = [])) ∧
    All w.heap.size w (stF g1 (.slice (some ⟨zg, 0, none⟩) 3 zc) 3 zs ++ (stF g13 (.slice (some ⟨yg, 0, none⟩) 3 yc) 3 ys ++ l')) wr
/-- the first observer with something to be told -/
theorem first_some : ∀ {zs : List Oz}, (∀ x ∈ zs, x.1.rs = []) ∨ ∃ z1 x z2, zs = z1 ++ x :: z2 ∧ (∀ y ∈ z1, y.1.rs = []) ∧ x.1.rs ≠ []
  | [] => .inl fun x hx => by cases hx
  | x :: zs => by
    by_cases e : x.1.rs = []
    · rcases first_some (zs := zs) with h | ⟨z1, y, z2, rfl, h1, h2⟩
      · refine .inl fun y hy => ?_
        rcases List.mem_cons.1 hy with rfl | hy
        · exact e
        · exact h y hy
      · refine .inr ⟨x :: z1, y, z2, rfl, fun u hu => ?_, h2⟩
        rcases List.mem_cons.1 hu with rfl | hu
        · exact e
        · exact h1 u hu
    · exact .inr ⟨[], x, zs, rfl, (fun y hy => by cases hy), e⟩

theorem permE (A : List Ob) (F t g : Ob) : (A ++ (F :: [t, g])).Perm (t :: g :: (A ++ (F :: []))) := by
  have h := List.perm_append_comm (l₁ := A ++ [F]) (l₂ := [t, g])
  simpa using h
theorem permG (Y A l : List Ob) (x k b : Ob) : (Y ++ (x :: ((k :: (A ++ [b])) ++ l))).Perm (A ++ (Y ++ (x :: k :: b :: l))) := by
  have p1 := List.Perm.append_left Y (List.perm_append_comm_assoc [x, k] A (b :: l))
  have p2 := p1.trans (List.perm_append_comm_assoc Y A ([x, k] ++ (b :: l)))
  simpa using p2
theorem permF (A : List Ob) (F t g : Ob) : (A ++ ([t, g] ++ (F :: []))).Perm (A ++ (F :: [t, g])) :=
  List.Perm.append_left A (by have h := List.perm_append_comm (l₁ := [t, g]) (l₂ := [F]); simpa using h)

set_option maxRecDepth 100000 in
set_option maxHeartbeats 16000000 in
theorem dlv_law {w : World} (hT : Laid w) (ka : Option Addr) (kn kc : Nat) (fk : Nat → Int) (hk : InB w ka kn fk) (hk1 : ∀ j, 0 ≤ fk j ∧ fk j ≤ 255) (pa : Option Addr) (pn pc : Nat) (fp : Nat → Pl4) (hp : InP w pa pn fp) (hpo : ∀ j, (fp j).ok) (A : Option Addr) (n c : Nat) (f : Nat → Opn) (h : InO w A n f) (ho : ∀ j, (f j).ok) (hkn : kn ≤ 9223372036854775807) (hpn : pn ≤ 9223372036854775807) (hn : n ≤ 9223372036854775807) :
    Calls Tryz.prog 3 #[.slice ka kn kc, .slice pa pn pc, .slice A n c] w fun e w' => e = .returned (.bool true) ∧ Below w.heap.size w w' := by
  have HT := Lib.hid hT
  have HK := Lib.hid hk
  have HK1 := Lib.hid hk1
  have HP := Lib.hid hp
  have HPo := Lib.hid hpo
  have H := Lib.hid h
  have HO := Lib.hid ho
  clear hT hk hk1 hp hpo h ho
  go_enter Tryz.func3, Tryz.ntmps3
  go_wp2_with fail
  refine (Z.awake_any w).mono ?_
  rintro e w1 ⟨rfl, hb1⟩
  have h1 := H.out.keep hb1
  go_wp2_with fail
  refine (few_any ka kn kc A n c f h1 hkn hn).mono ?_
  rintro e w2 ⟨bf, rfl, hfew, hw⟩
  rw [hw]
  clear hw h1
  cases bf
  · go_wp2_with fail
    refine (Z.awake_any w1).mono ?_
    rintro e w3 ⟨rfl, hb3⟩
    go_wp2_with fail
    go_ret
    exact ⟨rfl, bthen hb1 hb3⟩
  · obtain ⟨hk20, hn60, hs20⟩ := hfew rfl
    clear hfew
    by_cases hp20 : 20 < pn
    · have d1 : decide ((20 : Int) < (pn : Int)) = true := by simp; omega
      go_wp2_with fail
      refine (Z.awake_any w1).mono ?_
      rintro e w3 ⟨rfl, hb3⟩
      go_wp2_with fail
      go_ret
      exact ⟨rfl, bthen hb1 hb3⟩
    · have d1 : decide ((20 : Int) < (pn : Int)) = false := by simp; omega
      have HDoc := Lib.hid (document_any (HT.out.below hb1) ka kn kc ((List.range kn).map fk) (fun i hi => by
        obtain ⟨b, off, e, hlt, hc⟩ := HK.out (by omega)
        refine ⟨b, off, e, ?_, ?_⟩
        · rw [List.getElem?_map, List.getElem?_range hi]
          exact cell_keep hb1 (hc i hi)
        · rw [List.getElem?_map, List.getElem?_range hi]
          exact HK1.out i) (by omega))
      have HA0 := Lib.hid ((All.start w).still hb1)
      clear hb1
      go_wp2_with fail
      refine HDoc.out.mono ?_
      rintro e w3 ⟨R, S, K, d, sv, fv, lv, rfl, hD, hA⟩
      have hlo : Own w3 3 1 lv (hds S kn).length _ := hA.tail.head
      rw [hds_len] at hlo
      obtain ⟨la, lc, rfl⟩ := own_shape hlo
      clear hlo
      have hA3 : All w.heap.size w [trO R S sv fv, gl (.slice la kn lc) (hds S kn)] w3 := HA0.out.after hA
      have HD := Lib.hid hD
      have HA3 := Lib.hid hA3
      have hl3 : Own w3 3 1 (.slice la (hds S kn).length lc) (hds S kn).length (hcells (hds S kn)) := by
        have := hA3.tail.head
        rw [show Value.slice la kn lc = .slice la (hds S kn).length lc from by rw [hds_len]] at this
        exact this
      have HW1 := Lib.hid (watched_any (l := hds S kn) pa pn pc fp (HP.out.keep hA3.below) HPo.out hl3 (by omega) (by rw [hds_len]; omega))
      simp only [hds_len] at HW1
      clear hA hA3 HDoc HA0 hD hl3
      go_wp2_with fail
      refine HW1.out.mono ?_
      rintro e w4 ⟨zg1, zc1, zs1, ts1, fs1, v0, v1, v2, rfl, hz1, ht1, ho1, hw1, hA4⟩
      have HZ1 := Lib.hid ho1
      have HZl1 := Lib.hid hz1
      obtain ⟨b0, d0, b1, d1, b2, d2, n0, n1, n2, rfl, rfl, rfl⟩ := wd_shape ht1 (fun t ht => hA4.P _ (List.mem_cons_of_mem _ (List.mem_append_right _ (List.mem_cons_of_mem _ (List.mem_map.2 ⟨t, ht, rfl⟩)))))
      have hA5 := wd_state HA3.out hA4 hz1 [.slice b0 n0 d0, .slice b1 n1 d1, .slice b2 n2 d2]
      have HA5 := Lib.hid (hA5.sub (l' := stF w4.heap.size (.slice (some ⟨zg1, 0, none⟩) 3 zc1) 3 zs1 ++ (fo fs1 :: [trO R S sv fv, gl (.slice la kn lc) (hds S kn)])) (List.Sublist.append_left (List.Sublist.cons_cons _ (List.Sublist.cons _ (List.sublist_append_right _ _))) _))
      clear hA4 hA5 ho1 hz1 ht1 hw1 HW1
      go_upto_region 5 with fail
      generalize hg1 : w4.heap.size = g1 at *
      have HA6 := Lib.hid (show All w.heap.size w (trO R S sv fv :: gl (.slice la kn lc) (hds S kn) :: (stF g1 (.slice (some ⟨zg1, 0, none⟩) 3 zc1) 3 zs1 ++ (fo fs1 :: []))) _ from HA5.out.perm (permE _ _ _ _))
      clear HA5 HA3
      generalize (w4.alloc (.cells #[.slice (some ⟨zg1, 0, none⟩) 3 zc1, .slice none 0 0, .int .i64 3] 34)).alloc (.cells #[.slice b0 n0 d0, .slice b1 n1 d1, .slice b2 n2 d2] 36) = w5 at *
      go_wp2_with fail
      go_loopw [48] (fun iv wr => DlR w fp pn n kn S g1 zg1 zc1 fs1 R sv fv (.slice la kn lc) [] iv wr) (fun iv _ => n - (intOf iv).toNat)
      case atStart => exact ⟨0, S, K, d, zs1, Nat.zero_le _, rfl, HZl1.out, fun j x hx => ⟨dsk_start false (HZ1.out j x hx) (by omega), (HZ1.out j x hx).2.1⟩, HD.out, rfl, rfl, HA6.out⟩
      case round =>
        clear HA6 HZ1 HZl1 HD
        obtain ⟨i, S', K', d', y1, hi, rfl, hl1, hy1, hD', hb', hs', hA⟩ := hrel
        by_cases hin : i < n
        · have hbel := hA.below
          obtain ⟨ob, oo, rfl, hol, hc⟩ := H.out (by omega)
          obtain ⟨q0, q1, q2, q3, q4⟩ := hc i hin
          have hok := HO.out i
          have hsz := hs20 i hin
          generalize f i = opn at q0 q1 q2 q3 q4 hok hsz
          obtain ⟨k0, a0, b0, c0, os⟩ := opn
          unfold Opn.ok at hok
          (try simp only at q0 q1 q2 q3 q4 hok hsz)
          obtain ⟨k0, rfl⟩ := Int.eq_ofNat_of_zero_le hok.1.1
          obtain ⟨a0, rfl⟩ := Int.eq_ofNat_of_zero_le hok.2.1.1
          obtain ⟨b0, rfl⟩ := Int.eq_ofNat_of_zero_le hok.2.2.1.1
          obtain ⟨c0, rfl⟩ := Int.eq_ofNat_of_zero_le hok.2.2.2.1
          obtain ⟨sl0, rfl⟩ : ∃ sl0 : List UInt8, os = ⟨sl0.toArray⟩ := ⟨os.data.toList, rfl⟩
          have hsl0 : sl0.length ≤ 20 := by
            have : (⟨sl0.toArray⟩ : ByteArray).size = sl0.length := by show sl0.toArray.size = _; simp
            omega
          have q0 := cell_keep hbel q0
          have q1 := cell_keep hbel q1
          have q2 := cell_keep hbel q2
          have q3 := cell_keep hbel q3
          have q4 := cell_keep hbel q4
          have HMu := Lib.hid (mutate_tg (N := kn) hD' (show All w.heap.size w (trO R S' sv fv :: gl (.slice la kn lc) (hds S' kn) :: (stF g1 (.slice (some ⟨zg1, 0, none⟩) 3 zc1) 3 y1 ++ (fo fs1 :: []))) wr from by rw [hds_same hb' hs']; exact hA) (HT.out.below hbel) k0 a0 b0 c0 (by omega) (by omega) (by omega) (by omega) sl0 (by omega) (by omega))
          simp only [strV] at HMu
          have HL1 := Lib.hid hl1
          have HY1 := Lib.hid hy1
          clear hA hc hok hsz hbel hl1 hy1 hD'
          go_wp2_with fail
          refine HMu.out.mono ?_
          rintro e w9 ⟨S2, K2, d2, v, rs, rfl, hD2, hb2, hs2, hgd, hrs2, hpos, hA9⟩
          rw [hds_same hb' hs'] at hA9
          have hb3 : S2.b = S.b := hb2.trans hb'
          have hs3 : S2.s = S.s := hs2.trans hs'
          have hA10 : All w.heap.size w (NgO g1 zg1 y1.length zc1 3 y1 fs1 R S2 sv fv v rs (gl (.slice la kn lc) (hds S kn) :: [])) w9 := by
            rw [HL1.out]
            exact hA9.perm (permD2 _ _ _ _ _ _)
          have HN1 := Lib.hid (note_any hD2 hA10 hgd (dsk_ok (fun j x hx => (HY1.out j x hx).1) (by omega)) (fun hne => dsk_tg (fun j x hx => (HY1.out j x hx).1) (hpos hne) hb3 hs3) (by omega) (by rw [HL1.out]; omega))
          rw [HL1.out] at HN1
          have HD2 := Lib.hid hD2
          have HB3 := Lib.hid hb3
          have HS3 := Lib.hid hs3
          clear hA9 hA10 HMu hD2 hb2 hs2 hb' hs' hb3 hs3 hgd hpos q0 q1 q2 q3 q4
          go_wp2_with fail
          refine HN1.out.mono ?_
          rintro e w10 ⟨y1', rfl, he1, hA11⟩
          have hl1' : y1'.length = 3 := by rw [up_len he1, HL1.out]
          have HL1' := Lib.hid hl1'
          have HE1 := Lib.hid he1
          have HA11 := Lib.hid (show All w.heap.size w (stF g1 (.slice (some ⟨zg1, 0, none⟩) 3 zc1) 3 y1' ++ (fo fs1 :: trO R S2 sv fv :: rl v rs :: (gl (.slice la kn lc) (hds S kn) :: []))) w10 from hA11)
          clear hA11 HN1 he1 hl1'
          go_wp2_with fail
          refine ⟨⟨i + 1, S2, K2, d2, y1', by omega, by go_num, HL1'.out, fun j x hx => ⟨dsk_up (fun j x hx => (HY1.out j x hx).1) HE1.out hrs2 j x hx (fun h => by cases h), ?_⟩, HD2.out, HB3.out, HS3.out, (HA11.out.perm (permD2 _ _ _ _ _ _).symm).tail⟩, by simp [intOf]; omega⟩
          obtain ⟨y, hy, e⟩ := up_at HE1.out hx
          rw [e]
          exact (HY1.out j y hy).2
        · obtain rfl : i = n := by omega
          have hA2 := (show All w.heap.size w ([trO R S' sv fv, gl (.slice la kn lc) (hds S kn)] ++ (stF g1 (.slice (some ⟨zg1, 0, none⟩) 3 zc1) 3 y1 ++ (fo fs1 :: []))) wr from hA).perm (List.perm_append_comm_assoc _ _ _)
          have hA3 := hA2.perm (permF _ _ _ _)
          have HCl := Lib.hid (clone_st (g := g1) (zg := zg1) (zc := zc1) (nx := 3) (zs := y1) (fs := fs1) (l := [trO R S' sv fv, gl (.slice la kn lc) (hds S kn)]) (by rw [hl1]; exact hA3) (fun z hz => by
            obtain ⟨j, hj⟩ := List.mem_iff_getElem?.1 hz
            obtain ⟨h1, h2, h3, h4, h5, h6, h7, h8⟩ := (hy1 j z hj).1
            exact ⟨h3, h4, by omega, h5⟩) (by omega) (by omega))
          have HA3 := Lib.hid hA3
          have HY1 := Lib.hid hy1
          have HL1 := Lib.hid hl1
          clear hA hA2 hA3 hy1 hl1 hD' hb' hs'
          go_wp2_with fail
          refine HCl.out.mono ?_
          rintro e w9 ⟨yg, yc, ys, fs2, rfl, hyl, hys, hyf, hA4⟩
          rw [HL1.out] at hyl hA4 ⊢
          have HY2 := Lib.hid hys
          have HL2 := Lib.hid hyl
          have hA5 := (HA3.out.after hA4).newBkA w9.heap.size rfl [.slice (some ⟨yg, 0, none⟩) 3 yc, .slice none 0 0, .int .i64 3] 34
          have HA5 := Lib.hid (hA5.perm (l' := stF g1 (.slice (some ⟨zg1, 0, none⟩) 3 zc1) 3 y1 ++ (stF w9.heap.size (.slice (some ⟨yg, 0, none⟩) 3 yc) 3 ys ++ (fo fs2 :: (fo fs1 :: [trO R S' sv fv, gl (.slice la kn lc) (hds S kn)])))) (by
            unfold stF
            rw [hyl]
            have h1 := List.perm_append_comm_assoc (bk w9.heap.size [.slice (some ⟨yg, 0, none⟩) 3 yc, .slice none 0 0, .int .i64 3] 34 :: sl 60 4 (.slice (some ⟨yg, 0, none⟩) 3 yc) 3 (rows encO ys) :: (obF ys ++ [fo fs2])) (bk g1 [.slice (some ⟨zg1, 0, none⟩) 3 zc1, .slice none 0 0, .int .i64 3] 34 :: sl 60 4 (.slice (some ⟨zg1, 0, none⟩) 3 zc1) y1.length (rows encO y1) :: obF y1) (fo fs1 :: [trO R S' sv fv, gl (.slice la kn lc) (hds S kn)])
            simpa only [List.append_assoc, List.cons_append, List.nil_append] using h1))
          clear hA4 hA5 hys hyl HCl
          go_upto_region 11 with fail
          generalize hg13 : w9.heap.size = g13 at *
          have HA6 := Lib.hid HA5.out
          clear HA5
          generalize w9.alloc (.cells #[.slice (some ⟨yg, 0, none⟩) 3 yc, .slice none 0 0, .int .i64 3] 34) = w10 at *
          go_wp2_with fail
          go_loopw [14] (fun lv wr2 => DlT w g1 zg1 zc1 g13 yg yc lv wr2) (fun lv _ => 3 - (intOf lv).toNat)
          case atStart =>
            refine ⟨0, y1, ys, _, by omega, rfl, HL1.out, HL2.out, fun j x y hx hy => ?_, HA6.out⟩
            obtain ⟨h1, h2⟩ := HY1.out j x hx
            obtain ⟨s1, s2, s3, s4⟩ := HY2.out j x y hx hy
            have h6 := h1.2.2.2.2.2.1
            exact ⟨h1.1, h2, by rw [s1]; exact h1.1, s3, by omega, fun h => absurd h (Nat.not_lt_zero _)⟩
          case round =>
            clear HA6 HY1 HY2 HL1 HL2 HA3
            obtain ⟨L, zs, ys2, l', hL, rfl, hz3, hy3, hzy, hA⟩ := hrel
            rcases first_some (zs := zs) with hall | ⟨z1, ⟨z, a, b⟩, z2, rfl, hz1, hzr⟩
            · have hpl : ∀ (j : Nat) (y : Oz), ys2[j]? = some y → y.1.rs = [] := fun j y hy => by
                have hj3 : j < 3 := by have := (List.getElem?_eq_some_iff.1 hy).1; omega
                obtain ⟨x, hx⟩ : ∃ x, zs[j]? = some x := ⟨_, List.getElem?_eq_getElem (by omega)⟩
                rw [(hzy j x y hx hy).2.2.2.1]
                exact hall x (List.mem_of_getElem? hx)
              have hid : ∀ x ∈ zs, x.1.id ≠ 0 := fun x hx => by
                obtain ⟨j, hj⟩ := List.mem_iff_getElem?.1 hx
                have hj3 : j < 3 := by have := (List.getElem?_eq_some_iff.1 hj).1; omega
                obtain ⟨y, hy⟩ : ∃ y, ys2[j]? = some y := ⟨_, List.getElem?_eq_getElem (by omega)⟩
                rw [(hzy j x y hj hy).1]
                omega
              have HPn := Lib.hid (pending_no (show All w.heap.size w (stF g1 (.slice (some ⟨zg1, 0, none⟩) zs.length zc1) 3 zs ++ _) wr from by rw [hz3]; exact hA) hall (by omega))
              have HDn := Lib.hid (fun (wx : World) (hb : Below wr.heap.size wr wx) => deliver_none (show All w.heap.size w (stF g1 (.slice (some ⟨zg1, 0, none⟩) zs.length zc1) 3 zs ++ _) wx from by rw [hz3]; exact hA.still hb) hid (by omega) hall)
              have HPc := Lib.hid (fun (wx : World) (hb : Below wr.heap.size wr wx) => pending_no (show All w.heap.size w (stF g13 (.slice (some ⟨yg, 0, none⟩) ys2.length yc) 3 ys2 ++ _) wx from by rw [hy3]; exact (hA.still hb).perm (List.perm_append_comm_assoc _ _ _)) (fun y hy => by
                obtain ⟨j, hj⟩ := List.mem_iff_getElem?.1 hy
                exact hpl j y hj) (by omega))
              have HB := Lib.hid hA.below
              clear hA hzy hall hpl hid
              go_wp2_with fail
              refine HPn.out.mono ?_
              rintro e w11 ⟨rfl, hb11⟩
              have HB11 := Lib.hid hb11
              go_wp2_with fail
              refine (HDn.out _ HB11.out).mono ?_
              rintro e w12 ⟨rfl, hb12⟩
              have HB12 := Lib.hid (bthen HB11.out hb12)
              clear hb11 hb12
              go_wp2_with fail
              refine (HPc.out _ (bthen HB12.out ((Below.refl _ _).alloc (Nat.le_refl _) _))).mono ?_
              rintro e w13 ⟨rfl, hb13⟩
              have HB13 := Lib.hid (bthen HB.out (bthen (bthen HB12.out ((Below.refl _ _).alloc (Nat.le_refl _) _)) hb13))
              clear hb13
              go_wp2_with fail
              go_ret
              exact ⟨rfl, HB13.out⟩
            · have hq3 : z1.length < 3 := by rw [← hz3]; simp
              obtain ⟨⟨y, ya, yb⟩, hyq⟩ : ∃ y, ys2[z1.length]? = some y := ⟨_, List.getElem?_eq_getElem (by omega)⟩
              obtain ⟨hid, hcb, hyid, hyrs, hzl, hLq⟩ := hzy z1.length _ _ (get_mid z1 (z, a, b) z2) hyq
              simp only at hid hcb hyid hyrs hzl hLq hzr
              have hLle : L ≤ z1.length := by
                rcases Nat.lt_or_ge z1.length L with h1 | h1
                · exact absurd (hLq h1) hzr
                · exact h1
              have hz2 : ∀ u ∈ z2, z.id ≤ u.1.id := fun u hu => by
                obtain ⟨j, hj⟩ := List.mem_iff_getElem?.1 hu
                have hj2 : (z1 ++ (z, a, b) :: z2)[z1.length + 1 + j]? = some u := by
                  rw [List.getElem?_append_right (by omega), show z1.length + 1 + j - z1.length = j + 1 by omega]
                  exact hj
                have hj3 : z1.length + 1 + j < 3 := by have := (List.getElem?_eq_some_iff.1 hj2).1; omega
                obtain ⟨v, hv⟩ : ∃ v, ys2[z1.length + 1 + j]? = some v := ⟨_, List.getElem?_eq_getElem (by omega)⟩
                rw [(hzy _ u v hj2 hv).1, hid]
                omega
              have hzn : ∀ u ∈ z1, u.1.id ≠ z.id := fun u hu => by
                obtain ⟨j, hj⟩ := List.mem_iff_getElem?.1 hu
                have hjl : j < z1.length := (List.getElem?_eq_some_iff.1 hj).1
                obtain ⟨v, hv⟩ : ∃ v, ys2[j]? = some v := ⟨_, List.getElem?_eq_getElem (by omega)⟩
                rw [(hzy j u v (by rw [List.getElem?_append_left hjl]; exact hj) hv).1, hid]
                omega
              obtain ⟨c1, c2, rfl, hcl⟩ := split_at hyq
              have hcn : ∀ u ∈ c1, u.1.id ≠ y.id := fun u hu => by
                obtain ⟨j, hj⟩ := List.mem_iff_getElem?.1 hu
                have hjl : j < c1.length := (List.getElem?_eq_some_iff.1 hj).1
                obtain ⟨v, hv⟩ : ∃ v, (z1 ++ (z, a, b) :: z2)[j]? = some v := ⟨_, List.getElem?_eq_getElem (by omega)⟩
                rw [(hzy j v u hv (by rw [List.getElem?_append_left hjl]; exact hj)).2.2.1, hyid]
                omega
              obtain ⟨_, hob⟩ := st_own hA (get_mid z1 (z, a, b) z2)
              obtain ⟨ba, bc, rfl⟩ := own_shape hob
              have hA' : ∀ wx, Below wr.heap.size wr wx → All w.heap.size w (stF g1 (.slice (some ⟨zg1, 0, none⟩) (z1 ++ (z, a, .slice ba z.rs.length bc) :: z2).length zc1) 3 (z1 ++ (z, a, .slice ba z.rs.length bc) :: z2) ++ (stF g13 (.slice (some ⟨yg, 0, none⟩) 3 yc) 3 (c1 ++ (y, ya, yb) :: c2) ++ l')) wx := fun wx hb => by
                rw [hz3]
                exact hA.still hb
              have h0 : z.id ≠ 0 := by rw [hid]; omega
              have HPy := Lib.hid (pending_yes (hA' wr (Below.refl _ _)) hz1 hzr hz2 h0 (by omega))
              have HDv := Lib.hid (fun (wx : World) (hb : Below wr.heap.size wr wx) => deliver_first (hA' wx hb) hz1 hzr hz2 h0 (by omega) hzn)
              have HZY := Lib.hid hzy
              have HZ3 := Lib.hid hz3
              have HY3 := Lib.hid hy3
              have HCl := Lib.hid hcl
              have HCn := Lib.hid hcn
              have HYi := Lib.hid hyid
              have HYr := Lib.hid hyrs
              have HId := Lib.hid hid
              have HZ1 := Lib.hid hz1
              have hrlen : ∃ n0 : Nat, z.rs.length = n0 ∧ 0 < n0 := pos_len hzr
              generalize hq : z1.length = q at *
              have HQ := Lib.hid hq
              rw [hid, hcb] at HDv
              clear hA hA' hz1 hzr hz2 h0 hzn hzy hz3 hy3 hcl hcn hyid hyrs hid hcb hob hyq hLq hq
              go_wp2_with fail
              refine HPy.out.mono ?_
              rintro e w11 ⟨rfl, hb11⟩
              have HB11 := Lib.hid hb11
              clear hb11
              go_wp2_with fail
              refine (HDv.out _ HB11.out).mono ?_
              rintro e w12 ⟨rfl, hA2⟩
              rw [HZ3.out] at hA2
              obtain ⟨z', hid', hcb', hrs', hA2⟩ : ∃ z' : Ov, z'.id = (q : Int) + 1 ∧ z'.cb = 100 + (q : Int) ∧ z'.rs = [] ∧ All w.heap.size w (stF g1 (.slice (some ⟨zg1, 0, none⟩) 3 zc1) 3 (z1 ++ (z', a, .slice none 0 0) :: z2) ++ (rl (.slice ba z.rs.length bc) z.rs :: (stF g13 (.slice (some ⟨yg, 0, none⟩) 3 yc) 3 (c1 ++ (y, ya, yb) :: c2) ++ l'))) w12 := ⟨⟨(q : Int) + 1, 100 + (q : Int), z.ws, []⟩, rfl, rfl, rfl, hA2⟩
              have hA3 := hA2.newBkA w12.heap.size rfl [.int .i64 ((q : Int) + 1), .int .i64 (100 + (q : Int)), .slice ba z.rs.length bc, .slice none 0 0] 47
              have HA3 := Lib.hid hA3
              clear hA2 hA3 HPy HDv
              go_upto_region 14 with fail
              generalize hr16 : w12.heap.size = r16 at *
              have HA4 := Lib.hid HA3.out
              clear HA3
              generalize w12.alloc (.cells #[.int .i64 ((q : Int) + 1), .int .i64 (100 + (q : Int)), .slice ba z.rs.length bc, .slice none 0 0] 47) = w13 at *
              have hA5 : All w.heap.size w (stF g13 (.slice (some ⟨yg, 0, none⟩) (c1 ++ (y, ya, yb) :: c2).length yc) 3 (c1 ++ (y, ya, yb) :: c2) ++ ((bk r16 [.int .i64 ((q : Int) + 1), .int .i64 (100 + (q : Int)), .slice ba z.rs.length bc, .slice none 0 0] 47 :: (stF g1 (.slice (some ⟨zg1, 0, none⟩) 3 zc1) 3 (z1 ++ (z', a, .slice none 0 0) :: z2) ++ [rl (.slice ba z.rs.length bc) z.rs])) ++ l')) w13 := by
                rw [HY3.out]
                have h1 := (show All w.heap.size w ((bk r16 [.int .i64 ((q : Int) + 1), .int .i64 (100 + (q : Int)), .slice ba z.rs.length bc, .slice none 0 0] 47 :: (stF g1 (.slice (some ⟨zg1, 0, none⟩) 3 zc1) 3 (z1 ++ (z', a, .slice none 0 0) :: z2) ++ [rl (.slice ba z.rs.length bc) z.rs])) ++ (stF g13 (.slice (some ⟨yg, 0, none⟩) 3 yc) 3 (c1 ++ (y, ya, yb) :: c2) ++ l')) w13 from by
                  have h2 := HA4.out
                  simp only [List.append_assoc, List.cons_append, List.nil_append] at h2 ⊢
                  exact h2)
                exact h1.perm (List.perm_append_comm_assoc _ _ _)
              have k16 : Blk w13 r16 [.int .i64 ((q : Int) + 1), .int .i64 (100 + (q : Int)), .slice ba z.rs.length bc, .slice none 0 0] 47 := HA4.out.head
              have e0 := k16.cell 0
              simp only [List.getElem?_cons_zero] at e0
              have HTk := Lib.hid (take_obF (z := y) hA5 HCn.out (by rw [HY3.out]; omega))
              rw [HYi.out] at HTk
              clear hA5 k16 HA4
              go_wp2_with fail
              refine HTk.out.mono ?_
              rintro e w14 ⟨rfl, hA6⟩
              rw [HY3.out] at hA6
              obtain ⟨y', hyid', hyrs', hA6⟩ : ∃ y' : Ov, y'.id = (q : Int) + 1 ∧ y'.rs = [] ∧ All w.heap.size w (stF g13 (.slice (some ⟨yg, 0, none⟩) 3 yc) 3 (c1 ++ (y', ya, .slice none 0 0) :: c2) ++ (rl yb y.rs :: ((bk r16 [.int .i64 ((q : Int) + 1), .int .i64 (100 + (q : Int)), .slice ba z.rs.length bc, .slice none 0 0] 47 :: (stF g1 (.slice (some ⟨zg1, 0, none⟩) 3 zc1) 3 (z1 ++ (z', a, .slice none 0 0) :: z2) ++ [rl (.slice ba z.rs.length bc) z.rs])) ++ l'))) w14 := ⟨⟨(q : Int) + 1, y.cb, y.ws, []⟩, rfl, rfl, hA6⟩
              have k16 : Blk w14 r16 [.int .i64 ((q : Int) + 1), .int .i64 (100 + (q : Int)), .slice ba z.rs.length bc, .slice none 0 0] 47 := hA6.P (bk r16 [.int .i64 ((q : Int) + 1), .int .i64 (100 + (q : Int)), .slice ba z.rs.length bc, .slice none 0 0] 47) (by simp)
              have hO1 : Own w14 86 11 yb y.rs.length (rows encR y.rs) := hA6.P (rl yb y.rs) (by simp)
              have hO2 : Own w14 86 11 (.slice ba z.rs.length bc) z.rs.length (rows encR z.rs) := hA6.P (rl (.slice ba z.rs.length bc) z.rs) (by simp)
              rw [HYr.out] at hO1
              have HSm := Lib.hid (same_any hO1 hO2 (by omega))
              clear e0
              have e0 := k16.cell 0
              have e1 := k16.cell 1
              have e2 := k16.cell 2
              have e3 := k16.cell 3
              simp only [List.getElem?_cons_zero, List.getElem?_cons_succ] at e0 e1 e2 e3
              obtain ⟨n0, hn0, hp0⟩ := hrlen
              have b1 : decide ((q : Int) + 1 ≤ (L : Int)) = false := by simp; omega
              have b2 : ((100 + (q : Int)) != (99 + ((q : Int) + 1))) = false := by simp; omega
              have b3 : ((n0 : Int) == 0) = false := by simp; omega
              obtain ⟨y0a, y0c, rfl⟩ := own_shape hO1
              rw [hn0] at e2 HSm
              have HA7 := Lib.hid hA6
              clear hA6 k16 hO1 hO2 HTk
              go_wp2_with fail
              refine HSm.out.mono ?_
              rintro e w15 ⟨rfl, m15, hw15⟩
              have HA8 := Lib.hid (HA7.out.drewN m15)
              rw [← hw15] at HA8
              clear hw15 HA7 HSm e0 e1 e2 e3
              have hfin : DlT w g1 zg1 zc1 g13 yg yc (.int .i64 ((q : Int) + 1)) w15 := by
                have h1 := HA8.out
                have h2 := h1.perm (permG _ _ _ _ _ _)
                refine ⟨q + 1, _, _, _, by omega, rfl, by rw [← HZ3.out]; simp, by rw [← HY3.out]; simp, fun j u v hu hv => ?_, h2⟩
                rcases get_upd (x := (z, a, Value.slice ba z.rs.length bc)) hu with ⟨hj, rfl⟩ | ⟨hj, hu⟩
                · rw [HQ.out] at hj
                  subst hj
                  rcases get_upd (x := (y, ya, Value.slice y0a z.rs.length y0c)) hv with ⟨_, rfl⟩ | ⟨hj2, _⟩
                  · exact ⟨hid', hcb', hyid', by rw [hyrs', hrs'], by rw [hrs']; simp, fun _ => hrs'⟩
                  · exact absurd HCl.out.symm hj2
                · rw [HQ.out] at hj
                  rcases get_upd (x := (y, ya, Value.slice y0a z.rs.length y0c)) hv with ⟨hj2, _⟩ | ⟨hj2, hv⟩
                  · exact absurd (hj2.trans HCl.out) hj
                  · obtain ⟨f1, f2, f3, f4, f5, f6⟩ := HZY.out j u v hu hv
                    refine ⟨f1, f2, f3, f4, f5, fun hjl => ?_⟩
                    have hjq : j < z1.length := by rw [HQ.out]; omega
                    rw [List.getElem?_append_left hjq] at hu
                    exact HZ1.out u (List.mem_of_getElem? hu)
              have HFin := Lib.hid hfin
              have k16 : Blk w15 r16 [.int .i64 ((q : Int) + 1), .int .i64 (100 + (q : Int)), .slice ba z.rs.length bc, .slice none 0 0] 47 := HA8.out.P (bk r16 [.int .i64 ((q : Int) + 1), .int .i64 (100 + (q : Int)), .slice ba z.rs.length bc, .slice none 0 0] 47) (by simp)
              have e0 := k16.cell 0
              simp only [List.getElem?_cons_zero] at e0
              clear k16
              clear hfin hcb' hid' hrs' hyid' hyrs' b1 b2 b3 hp0 hn0
              go_wp2_with fail
              exact ⟨HFin.out, by simp [intOf]; omega⟩
end Go.Proofs.YtfdofkokiaapoaaGreatDoor.W
end
section
/- What the row's list gives a walk (Laid), and a world for the witness. -/
namespace Go.Proofs.YtfdofkokiaapoaaGreatDoor.W
open Go.ChangeShapes Go.WideShapes Go.ChangeAt Go.RowKit Go.Joins Go.Shelf
set_option linter.unusedVariables false

/-- the list of the row -/
def lst : List (String × DataW Unit) := [("unicode/utf8.acceptRanges", Rows.laid_unicode_utf8_acceptRanges), ("unicode/utf8.first", Rows.laid_unicode_utf8_first)]
theorem first_eq : Rows.laid_unicode_utf8_first = Lib.firstData := by kernel_rfl
theorem accept_eq : (Rows.laid_unicode_utf8_acceptRanges : DataW Unit) = Lib.acceptData := by kernel_rfl

set_option maxRecDepth 100000 in
theorem laid_of {w : World} (h : laidMetH Tryz.prog lst w) (hs : w.ShapedOpen Tryz.prog) : Laid w := by
  have h1 := Lib.laidMet.reads h (.tail _ (.head _))
  have h2 := Lib.laidMet.reads h (.head _)
  rw [first_eq] at h1
  rw [accept_eq] at h2
  exact ⟨utf8Tabs_of_readsT (U8Types.of196 Tryz.laysValid) ⟨by kernel_rfl, by kernel_rfl, by kernel_rfl, by kernel_rfl, by kernel_rfl, by kernel_rfl, by kernel_rfl⟩ h1 h2⟩

/-- A WORLD FOR THE WITNESS: the settled world, the two variables holding what the list says. -/
noncomputable def laidWorld (os : Os) : World :=
  let w0 := World.holding Tryz.prog os ⟨#[], #[], []⟩
  let put (h : Array Obj) (g : Nat) (cs : Array Value) : Array Obj := h.modify g fun
    | .cells _ t frozen => .cells cs t frozen
    | o => o
  let h1 := put w0.heap 0 (Lib.firstTab.map fun z => Value.int .u8 z).toArray
  let h2 := put h1 1 ((List.range 16).flatMap fun i => [Value.int .u8 (Lib.accLo i), Value.int .u8 (Lib.accHi i)]).toArray
  { w0 with heap := h2 }
theorem laid_met (os : Os) (args : Array Value) : laidMet Tryz.prog lst ((laidWorld os).forCall (fun _ _ => 0) ⟨#[], args, []⟩).memory :=
  (LaidIn.of_run (l := lst) [0, 1] 8 (by kernel_rfl) (by kernel_rfl) (by kernel_rfl) (by kernel_rfl)).met
end Go.Proofs.YtfdofkokiaapoaaGreatDoor.W
end
