/- Texts joined: Err Top LwE. -/
import Derived.Test.YtfelmdkeaacfeaaGreatDoorTE1
set_option maxRecDepth 100000
set_option maxHeartbeats 40000000
set_option linter.unusedVariables false
set_option linter.unusedSimpArgs false
section
namespace Go.Proofs.YtfelmdkeaacfeaaGreatDoor.W
open Go.RowKit
attribute [local go_sem] Oper.semAt_some
section
variable {B R : Nat} {S : Tr} {sv fv : Value} {w : World}
theorem Yw (h:fZ B R S sv fv w)(hd:Int)(hh:uY hd)(hk:S.ix hd=none) :
  Calls Tryz.prog 27 #[.pointer (some ⟨R,0,none⟩),.int .i64 hd] w fun e w'=>e=.returned (.slice none 0 0)∧Below w.heap.size w w':=by
 have HA:=ae (qI h hd hh hk)
 clear h hk
 go_enter Tryz.func27,Tryz.ntmps27
 go_wp2_with fail
 refine HA.out.mono ?_
 rintro e w2 ⟨rfl,hb⟩
 go_wp2_with fail
 go_ret
 exact⟨rfl,hb⟩
theorem index_none (h:fZ B R S sv fv w)(hd:Int)(hh:uY hd)(hk:S.ix hd=none) :
  Calls Tryz.prog 28 #[.pointer (some ⟨R,0,none⟩),.int .i64 hd] w fun e w'=>e=.returned (.int .i64 (-1))∧Below w.heap.size w w':=by
 have HA:=ae (qI h hd hh hk)
 clear h hk
 go_enter Tryz.func28,Tryz.ntmps28
 go_wp2_with fail
 refine HA.out.mono ?_
 rintro e w2 ⟨rfl,hb⟩
 go_wp2_with fail
 go_ret
 exact⟨rfl,hb⟩
theorem Yt (h:fZ B R S sv fv w)(hT:Laid w)(hfr:∀i∈S.free,S.slots[i]? = some none)(hfl:S.free.length≤1000000)(hl:S.slots.length < 20000)(kind:Int)(hk:kind < 2∨4 < kind) :
  Calls Tryz.prog 22 #[.pointer (some ⟨R,0,none⟩),.int .i64 kind] w fun e w'=>e=.returned (.bool true)∧∃sv' fv',fZ B R S sv' fv' w'∧dU (fun k=>k=R∨sv.ownBlock=some k) w w'∧(sv'.ownBlock=sv.ownBlock∨∃k,sv'.ownBlock=some k∧w.heap.size≤k)∧fv'.ownBlock=fv.ownBlock:=by
 have HM:=ae (MV h hT hfr hfl hl kind [112] [120] (by decide) (by decide) (.slice none 0 0) [] (aG _ _ _ _) (by decide) (fun a ha=>by cases ha))
 have HN:=ae (fun e w' (hm:sW B R S sv fv w kind [112] [120] [] e w')=>hm)
 clear h hT
 go_enter Tryz.func22,Tryz.ntmps22
 go_wp2_with fail
 refine HM.out.mono ?_
 rintro e w2 ⟨S',sv',fv',h',en,hm,rfl,hT,hC,h1,h2⟩
 cases hm with
 | kind a b c =>
  have HT:=ae hT
  have HC:=ae hC
  clear hT hC
  go_wp2_with fail
  go_ret
  refine⟨rfl,sv',fv',HT.out,HC.out,h1,h2⟩
 | arg a b=>omega
 | many a b c=>omega
 | el av a b c d=>omega
 | tx a=>omega
theorem Yr (h:fZ B R S sv fv w)(hd:Int)(hh:uY hd)(hk:S.ix hd=none) :
  Calls Tryz.prog 30 #[.pointer (some ⟨R,0,none⟩),.int .i64 hd] w fun e w'=>e=.returned (.string ⟨#[]⟩)∧Below w.heap.size w w':=by
 refine(jP (n:=8)).1 ?_
 refine zZ Tryz.func30 rfl trivial ?_ rfl
 simp only [Tryz.ntmps30,gZ,List.length_cons,List.length_nil,Nat.reduceAdd,Nat.reduceSub,ji,Array.replicate_zero,jS,jE,List.nil_append,List.cons_append]
 refine wpIn_wide.2 ?_
 have k1:=(dD.new w [.pointer (some ⟨R,0,none⟩)] 29).alloc (.cells #[.pointer none,.slice none 0 0] 124)
 have k2:=dD.new (w.alloc (.cells #[.pointer (some ⟨R,0,none⟩)] 29)) [.pointer none,.slice none 0 0] 124
 rw [show(w.alloc (.cells #[.pointer (some ⟨R,0,none⟩)] 29)).heap.size=w.heap.size+1 by simp] at k2
 have hb2:Below w.heap.size w ((w.alloc (.cells #[.pointer (some ⟨R,0,none⟩)] 29)).alloc (.cells #[.pointer none,.slice none 0 0] 124)):=((ak _ _).alloc (au _) _).alloc (by simp) _
 have hs2:((w.alloc (.cells #[.pointer (some ⟨R,0,none⟩)] 29)).alloc (.cells #[.pointer none,.slice none 0 0] 124)).heap.size=w.heap.size+2:=by simp
 have c0:=k1.cell 0
 simp only [List.getElem?_cons_zero] at c0
 go_upto_region 2 with fail
 change dD ((w.alloc (.cells #[.pointer (some ⟨R,0,none⟩)] 29)).alloc (.cells #[.pointer none,.slice none 0 0] 124)) _ _ _ at k2
 generalize (w.alloc (.cells #[.pointer (some ⟨R,0,none⟩)] 29)).alloc (.cells #[.pointer none,.slice none 0 0] 124)=w2 at *
 go_wp2_with fail
 refine(walk_any R hd w2).mono ?_
 rintro e w4 ⟨rfl,hw4⟩
 have hs4:w4.heap.size=w.heap.size+4:=by rw [hw4];simp [hs2]
 have hb4:Below w.heap.size w w4:=by rw [hw4];exact(hb2.alloc hb2.size _).alloc (by simp;omega) _
 have k4:dD w4 (w.heap.size+1) [.pointer none,.slice none 0 0] 124:=by rw [hw4];exact(k2.alloc _).alloc _
 have hBs:dD w4 w2.heap.size [.pointer (some ⟨R,0,none⟩)] 29:=by rw [hw4];exact(dD.new w2 [.pointer (some ⟨R,0,none⟩)] 29).alloc _
 have hBh:dD w4 (w2.heap.size+1) [.int .i64 hd] 3:=by
  have k2:=dD.new (w2.alloc (.cells #[.pointer (some ⟨R,0,none⟩)] 29)) [.int .i64 hd] 3
  rw [show(w2.alloc (.cells #[.pointer (some ⟨R,0,none⟩)] 29)).heap.size=w2.heap.size+1 by simp] at k2
  rw [hw4];exact k2
 have hI:UM (w.heap.size+1) w w4:=⟨by omega,fun k cs t fr hk=>(hb4.block k (hlt hk)).trans hk,fun k hk=>(by
  unfold J3 at hk
  have:=k4.cell 0
  simp only [List.getElem?_cons_zero] at this
  rw [this] at hk;cases hk),by omega,by omega⟩
 have HS2:=ae hs2
 have HS4:=ae hs4
 have HSq:=ae (fun m=>Yq (n:=m) (b:=w.heap.size+1) h hd hh hk hI hBs hBh)
 have HB4:=ae hb4
 have HK4:=ae k4
 clear hw4 hBs hBh hI k1 k2 hb2 c0 k4 hs2 hs4
 go_wp2_with fail
 refine(wpIn_wide (n:=8)).1 ?_
 refine xE (α:=Nat) (fun x a=>{ tmps:=(a.tmps.setIfInBounds 11 (.int .i64 (S.hd x))).setIfInBounds 6 (.int .i64 (S.hd x)),defers:=[] }) (by omega) (gf:=73) (lb:=#[.pointer (some ⟨w2.heap.size,0,none⟩),.pointer (some ⟨w2.heap.size+1,0,none⟩)]) rfl (enters_of Tryz.func73 (by kernel_rfl) rfl) (HSq.out 7) EZ.trans (fun W l o o' hl h hc _=>EZ.Ue l o o' h hc (by have:=HS4.out;omega)) (fun _=>rfl)
  (fun pre W=>Below w.heap.size w W∧dD W (w.heap.size+1) [.pointer none,.slice none 0 0] 124) (fun c pre W=>False) ?own (fun _ _ _ _ _ hs _ _=>hs) ⟨HB4.out,HK4.out⟩ ?assign ?body ?done ?stop
 case own =>
  rintro pre W W' row ⟨h1,h2⟩ hg hr
  exact⟨h1.grown hg h1.size (fun k e=>by have:=(hr k e).1;have:=HS4.out;omega),Io h2 hg hr⟩
 case assign =>
  intro l x W K hK
  gi_wp2
  exact hK
 case stop =>
  intro D c pre W hD hs hx
  cases hx
 case body =>
  intro l' pre x W hI hlt
  omega
 case done =>
  rintro D ys W hD rfl ⟨h1,h2⟩ hK
  have hI:Lib.IsBuilderF 124 5 (w.heap.size+1) (w.heap.size+1) (Lib.byteCells []) W:=Lib.IsBuilderF.of (.inl ⟨au _,.slice none 0 0,h2,aG _ _ _ _,by simp [Value.ownBlock]⟩)
  have hWl:=h2.lt
  have hDl:=hlt hK
  have HK:=ae hK
  have H1:=ae h1
  have HI:=ae hI
  clear hI h1 h2 hK HSq
  go_wp2_with fail
  refine(Tryz.Builder_String_any_k (w.heap.size+1) (w.heap.size+1) [] W HI.out (by omega)).mono ?_
  rintro e w5 ⟨rfl,_,hb5,ho5⟩
  have hD5:w5.heap[D]? = some (.deferred (some [])):=ho5 D _ HK.out (by simp;have:=HS4.out;omega) (fun c fz e=>by cases e)
  have HB5:=ae (H1.out.trans (hb5.mono (by omega)))
  have hDl5:=hlt hD5
  go_wp2_with fail
  refine DL hD5 ?_
  refine⟨.string ⟨#[]⟩,?_,rfl,Gm _ HB5.out (by have:=HS4.out;omega) hDl5⟩
  simp [results,Tryz.f30,go_sem]
end
end Go.Proofs.YtfelmdkeaacfeaaGreatDoor.W
end
section
namespace Go.Proofs.YtfelmdkeaacfeaaGreatDoor.W
open Go.RowKit
theorem Yz {B R:Nat}{S:Tr}{sv fv:Value}{w:World}(h:fZ B R S sv fv w)(hd:Int)(hh:uY hd)(hk:S.ix hd=none) :
  Calls Tryz.prog 29 #[.pointer (some ⟨R,0,none⟩),.int .i64 hd] w fun e w'=>e=.returned (.int .i64 0)∧Below w.heap.size w w':=by
 have HA:=ae (qI h hd hh hk)
 clear h hk
 go_enter Tryz.func29,Tryz.ntmps29
 go_wp2_with fail
 refine HA.out.mono ?_
 rintro e w2 ⟨rfl,hb2⟩
 go_wp2_with fail
 go_loopw [1,5] (fun hv nv wr=>nv=.pointer none∧Below w.heap.size w wr) (fun _ _ _=>0)
 case atStart=>exact⟨rfl,hb2⟩
 case round =>
  obtain⟨rfl,hB⟩:=hrel
  go_wp2_with fail
  go_ret
  exact⟨rfl,hB⟩
end Go.Proofs.YtfelmdkeaacfeaaGreatDoor.W
end
section
namespace Go.Proofs.YtfelmdkeaacfeaaGreatDoor.W
open Go.RowKit
attribute [local go_sem] Oper.semAt_some
theorem YD {c x:Nat}{S:Tr}{K:Nat→List Nat}{d:Nat→Nat}{M:List MN}{σ : Nat→Nat}(T:CX True (fun _=>False) c x S K d M σ)(h:Int)(hl:S.slots.length≤2000000000)(hno:∀j:Nat,(iZ S σ M)[j]?≠some h):S.ix h=none:=by
 cases e:S.ix h with
 | none=>rfl
 | some k =>
  have h1:=YF e hl
  obtain⟨_,h2,n,hn⟩:=zG e
  have h3:(S.at k).isSome=true:=by unfold Tr.at;rw [hn];rfl
  rcases T.tw.cover k h3 with hE | ⟨i,m,hi,hs⟩
  ·exact hE.elim
  ·exact absurd (by rw [A7 hi,hs,h1]) (hno i)
theorem YB {R:Nat}{S:Tr}{sv fv sv' fv':Value}{w w':World}(h:fZ 0 R S sv' fv' w')(hC:dU (fun k=>k=R∨sv.ownBlock=some k) w w')(h1:sv'.ownBlock=sv.ownBlock∨∃k,sv'.ownBlock=some k∧w.heap.size≤k)(h2:fv'.ownBlock=fv.ownBlock):qh R S sv fv w S sv' fv' w':=by
 refine⟨h,hC.mono (fun k _ hk=>hk.imp id .inl),fun k hk=>?_⟩
 rcases hk with hk | hk | hk | hk
 ·exact .inl (.inl hk)
 ·rcases h1 with e | ⟨q,e,hq⟩
  ·exact .inl (.inr (.inl (by rw [← e];exact hk)))
  ·rw [e] at hk;cases hk;exact .inr hq
 ·exact .inl (.inr (.inr (.inl (by rw [← h2];exact hk))))
 ·exact .inl (.inr (.inr (.inr hk)))
theorem All.YG {B:Nat}{w0 w W W':World}{l:List Ob}{row:Option Nat}(h0:All B w0 l w)(hI:All B w0 l W)(hg:W.grownBy W' row)(hr:∀k,row=some k→w.heap.size≤k∧∃o:Obj,W.heap[k]? = some o∧o.isCells=false):All B w0 l W' :=
 hI.grownBy hg (fun k e=>⟨aQ h0.le (hr k e).1,fun o ho hk=>by have:=o.here w (h0.P o ho) k hk;have:=(hr k e).1;omega⟩)
def YH (w8:World)(Hs:List Int)(n:Nat)(h:Int)(iv:Value)(wr:World):Prop:=∃i:Nat,i≤n∧iv=.int .i64 (i:Int)∧wr=w8∧∀j,j < i→Hs[j]?≠some h
set_option maxRecDepth 100000 in
set_option maxHeartbeats 64000000 in
theorem Yp {w : World} (hL : Laid w) (A : Option Addr) (n c : Nat) (f : Nat → ou) (hP : UW w A n f) (hn : n ≤ 9223372036854775807) (hf : ∀ j, (f j).In) (h kind : Int) (hh : uY h) :
    Calls Tryz.prog 5 #[.slice A n c, .int .i64 h, .int .i64 kind] w fun e w' => e = .returned (.bool true) ∧ Below w.heap.size w w' := by
  have HL := ae hL
  have HP := ae hP
  have HF := ae hf
  clear hL hP hf
  refine (jP (n := 8)).1 ?_
  refine zZ Tryz.func5 rfl trivial ?_ rfl
  simp only [Tryz.ntmps5, gZ, List.length_cons, List.length_nil, Nat.reduceAdd, Nat.reduceSub, ji, Array.replicate_zero, jS, jE, List.nil_append, List.cons_append]
  refine wpIn_wide.2 ?_
  go_wp2_with fail
  refine (Gn w).mono ?_
  rintro e w1 ⟨rfl, hb1⟩
  have HB1 := ae hb1
  clear hb1
  go_wp2_with fail
  refine (Ph A n c f (HP.out.below HB1.out) hn).mono ?_
  rintro e w2 ⟨b, rfl, hfew, hw⟩
  rw [hw]
  clear hw
  cases b with
  | false =>
    go_wp2_with fail
    refine (Gn w1).mono ?_
    rintro e w3 ⟨rfl, hb3⟩
    have HB3 := ae (aV HB1.out hb3)
    clear hb3
    go_wp2_with fail
    refine ⟨.bool true, ?_, rfl, HB3.out⟩
    simp [results, Tryz.f5, go_sem]
  | true =>
    obtain ⟨hn60, hstr⟩ := hfew rfl
    have HS := ae hstr
    clear hfew hstr
    go_wp2_with fail
    refine (NL ((All.start w).still HB1.out) 7 3).mono ?_
    rintro e w3 ⟨g, R, Q, hv, sv, nv, X, rfl, hms, hA⟩
    have HR := ae (show VZ w g n (.int .i64 0) w3 from ⟨0, aZ _, rfl, R, Q, hv, sv, _, nv, _, _, _, X, _, hA, hms ▸ NI 7 3⟩)
    clear hA hms
    go_wp2_with fail
    go_loopw [8] (fun iv wr => VZ w g n iv wr) (fun iv _ => n - iW iv)
    case atStart => exact HR.out
    case round =>
      obtain ⟨i, hi, rfl, R, Q, hv, sv, fv, nv, S, K, d, X, σ, hA, hT⟩ := hrel
      have HA := ae hA
      have HT := ae hT
      have hHl : (iZ S σ (ms X)).length = X.length := by rw [jJ, aY]
      obtain ⟨hva, hvc, hvv⟩ := aW (lL hA)
      rw [hHl] at hvv
      subst hvv
      have g2 := (bF hA).cell 2
      simp only [List.getElem?_cons_succ, List.getElem?_cons_zero] at g2
      have hgl := (bF hA).lt
      have hSp : 0 < S.slots.length := by
        obtain ⟨n, hn, _⟩ := hT.ok.doc
        exact iy hn
      have hXs := hT.tw.few
      rw [aY] at hXs
      have hSs := hT.lim
      rw [aY] at hSs
      have hfl := hT.ok.Ju
      clear hA hT
      by_cases hgo : i < n ∧ X.length < 300
      · obtain ⟨hin, hx3⟩ := hgo
        have hii : (i : Int) < (n : Int) := by omega
        have hxx : decide ((X.length : Int) < 300) = true := by simp; omega
        obtain ⟨b, off, rfl, hbl, hc⟩ := (HP.out.below HA.out.below) (by omega)
        obtain ⟨p0, p1, p2, p3, p4, p5, p6, p7⟩ := hc i hin
        clear hc hHl
        go_wp2_with fail
        refine (UG (HL.out.below HA.out.below) HA.out HT.out (by omega) (by omega) (fun _ => by omega) (by omega) (f i) ((HF.out i).ok (HS.out i hin)) (fun y h => h.elim)).mono ?_
        rintro e w5 ⟨v, ok, S', K', d', X', σ', hv', sv', fv', nv', ts, rs, dl, rfl, hA5, hT5, hex, _⟩
        have HA5 := ae hA5.tail
        have HT5 := ae hT5
        clear hA5 hT5 hex p0 p1 p2 p3 p4 p5 p6 p7 g2 hgl
        go_wp2_with fail
        go_roundw
        case rel => exact ⟨i + 1, by omega, by go_num, _, _, _, _, _, _, _, _, _, _, _, HA5.out, HT5.out⟩
        case measure => simp [iW]; omega
      · obtain ⟨ws, rfl⟩ : ∃ q, q = wr := ⟨wr, rfl⟩
        have HHl := ae hHl
        clear hHl
        have g0 := (bF HA.out).cell 0
        simp only [List.getElem?_cons_succ, List.getElem?_cons_zero] at g0
        rcases (show n ≤ i ∨ (i < n ∧ 300 ≤ X.length) by omega) with h1 | ⟨h1, h2⟩
        all_goals
          first
            | (have h3 := h2; have hii : (i : Int) < (n : Int) := (by omega); have hxx : decide ((X.length : Int) < 300) = false := (by simp; omega))
            | (obtain rfl : i = n := by omega)
          clear hgo
          rcases (show kind < 2 ∨ 4 < kind ∨ (2 ≤ kind ∧ kind ≤ 4) by omega) with hk | hk | hk
          all_goals
            first
              | (have hk1 : decide (kind < 2) = true := dZ hk)
              | (have hk0 : 4 < kind := hk
                 have hk1 : decide (kind < 2) = false := by simp; omega
                 have hk2 : decide (4 < kind) = true := dZ hk)
              | (have hk1 : decide (kind < 2) = false := by simp; omega
                 have hk2 : decide (4 < kind) = false := by simp; omega)
            go_wp2_with fail
            first
              | (refine (Yt (jF HA.out) (HL.out.below HA.out.below) HT.out.ok.fr (by omega) (by omega) kind (by omega)).mono ?_
                 rintro e w8 ⟨rfl, sv8, fv8, hT8, hC8, h81, h82⟩
                 have HA8 := ae ((YB hT8 hC8 h81 h82).all HA.out)
                 clear hT8 hC8 h81 h82 g0 g2 hgl
                 go_wp2_with fail)
              | (obtain ⟨w8, rfl⟩ : ∃ q, q = ws := ⟨ws, rfl⟩
                 obtain ⟨sv8, rfl⟩ : ∃ q, q = sv := ⟨sv, rfl⟩
                 obtain ⟨fv8, rfl⟩ : ∃ q, q = fv := ⟨fv, rfl⟩
                 have HA8 := HA
                 clear g0 g2 hgl)
            obtain ⟨Hs, hHs⟩ : ∃ Hs, Hs = iZ S σ (ms X) := ⟨_, rfl⟩
            rw [← hHs] at HA8 HHl
            have HHs := ae hHs
            clear hHs
            go_loopw [9] (fun iv wr => YH w8 Hs X.length h iv wr) (fun iv _ => X.length - iW iv)
            case atStart => exact ⟨0, aZ _, rfl, rfl, fun j hj => absurd hj (Nat.not_lt_zero j)⟩
            case round =>
              obtain ⟨j, hj, rfl, hw, hno⟩ := hrel
              rw [hw]
              clear hw
              have g2 := (bF HA8.out).cell 2
              simp only [List.getElem?_cons_succ, List.getElem?_cons_zero] at g2
              have hgl := (bF HA8.out).lt
              have HNo := ae hno
              clear hno
              by_cases hjl : j < X.length
              · obtain ⟨hd, hhd⟩ : ∃ hd, Hs[j]? = some hd := ⟨_, ay (by rw [HHl.out]; exact hjl)⟩
                obtain ⟨gh, rfl, hghl, hgh⟩ := jk HA8.out HHl.out _ _ hhd
                have hai : (j : Int) < (X.length : Int) := by omega
                by_cases heq : hd = h
                · have hq : (hd == h) = true := by simpa using heq
                  go_wp2_with fail
                  refine ⟨.bool true, ?_, rfl, HA8.out.below⟩
                  simp [results, Tryz.f5, go_sem]
                · have hq : (hd == h) = false := by simpa using heq
                  have HHd := ae hhd
                  clear hhd
                  go_wp2_with fail
                  go_roundw
                  case rel => exact ⟨j + 1, by omega, by go_num, rfl, fun k hk => by
                    by_cases e : k = j
                    · subst e; rw [HHd.out]; exact fun e => heq (cO e)
                    · exact HNo.out k (by omega)⟩
                  case measure => simp [iW]; omega
              · obtain rfl : j = X.length := by omega
                have hix : S.ix h = none := YD HT.out h (by omega) (fun k => by
                  rw [← HHs.out]
                  by_cases e : k < X.length
                  · exact HNo.out k e
                  · rw [bQ (by rw [HHl.out]; omega)]; exact fun e => by cases e)
                have HIx := ae hix
                obtain ⟨gs, caps, rfl⟩ := fO (jF HA8.out) (by omega)
                obtain ⟨n0, hn0, _⟩ := HT.out.ok.doc
                have HN0 := ae hn0
                have HA := HA8
                have g0 := (bF HA8.out).cell 0
                have r5 := (jF HA8.out).blk.cell 5
                simp only [List.getElem?_cons_succ, List.getElem?_cons_zero] at g0 r5
                rw [HT.out.ok.root] at r5
                clear hix hn0
                go_wp2_with fail
                clear g2 hgl
                refine (Hw (jF HA.out) HT.out.ok.lk 0 n0 HN0.out h 0 hh HIx.out).mono ?_
                rintro e w9 ⟨rfl, hb⟩
                have hA := HA.out.still hb
                have HA := ae hA
                have g0 := (bF hA).cell 0
                simp only [List.getElem?_cons_succ, List.getElem?_cons_zero] at g0
                clear hA hb
                go_wp2_with fail
                refine (zH (jF HA.out) h (S.hd 0) 0 hh HIx.out).mono ?_
                rintro e w9 ⟨rfl, hb⟩
                have hA := HA.out.still hb
                have HA := ae hA
                have g0 := (bF hA).cell 0
                simp only [List.getElem?_cons_succ, List.getElem?_cons_zero] at g0
                clear hA hb
                go_wp2_with fail
                refine (I4 (jF HA.out) h hh HIx.out).mono ?_
                rintro e w9 ⟨rfl, hb⟩
                have hA := HA.out.still hb
                have HA := ae hA
                have g0 := (bF hA).cell 0
                simp only [List.getElem?_cons_succ, List.getElem?_cons_zero] at g0
                clear hA hb
                go_wp2_with fail
                refine (GG (jF HA.out) h hh HIx.out _ _).mono ?_
                rintro e w9 ⟨rfl, hb⟩
                have hA := HA.out.still hb
                have HA := ae hA
                have g0 := (bF hA).cell 0
                simp only [List.getElem?_cons_succ, List.getElem?_cons_zero] at g0
                clear hA hb
                go_wp2_with fail
                refine (GL (jF HA.out) h hh HIx.out _ _ _).mono ?_
                rintro e w9 ⟨rfl, hb⟩
                have hA := HA.out.still hb
                have HA := ae hA
                have g0 := (bF hA).cell 0
                simp only [List.getElem?_cons_succ, List.getElem?_cons_zero] at g0
                clear hA hb
                go_wp2_with fail
                refine (J9 (jF HA.out) h hh HIx.out true).mono ?_
                rintro e w9 ⟨rfl, hb⟩
                have hA := HA.out.still hb
                have HA := ae hA
                have g0 := (bF hA).cell 0
                simp only [List.getElem?_cons_succ, List.getElem?_cons_zero] at g0
                clear hA hb
                go_wp2_with fail
                refine (N8 (jF HA.out) h hh HIx.out).mono ?_
                rintro e w9 ⟨v', rfl, ho, hb⟩
                obtain ⟨va, vc, rfl⟩ := bP ho
                have hA := HA.out.still hb
                have HA := ae hA
                have g0 := (bF hA).cell 0
                have hgl := (bF hA).lt
                simp only [List.getElem?_cons_succ, List.getElem?_cons_zero] at g0
                clear hA hb ho
                simp only [jd, jV, dA]
                go_wp2_with fail
                refine (J8 (jF (HA.out.alloc _)) h hh HIx.out).mono ?_
                rintro e w10 ⟨rfl, hb⟩
                have hA := (HA.out.alloc _).still hb
                have HA := ae hA
                have g0 := (bF hA).cell 0
                have hgl := (bF hA).lt
                simp only [List.getElem?_cons_succ, List.getElem?_cons_zero] at g0
                clear hA hb
                go_wp2_with fail
                refine (walk_any R h _).mono ?_
                rintro e w12 ⟨rfl, hw12⟩
                have hs0 : (w10.alloc (.cells #[.int .i64 0] 3)).heap.size = w10.heap.size + 1 := by simp
                have hs12 : w12.heap.size = w10.heap.size + 3 := by rw [hw12]; simp
                have hb12 : Below w10.heap.size w10 w12 := by rw [hw12]; exact (((ak _ _).alloc (au _) _).alloc (by simp) _).alloc (by simp; omega) _
                have k12 : dD w12 w10.heap.size [.int .i64 0] 3 := by rw [hw12]; exact ((dD.new w10 [.int .i64 0] 3).alloc _).alloc _
                have hBs : dD w12 (w10.alloc (.cells #[.int .i64 0] 3)).heap.size [.pointer (some ⟨R, 0, none⟩)] 29 := by rw [hw12]; exact (dD.new _ [.pointer (some ⟨R, 0, none⟩)] 29).alloc _
                have hBh : dD w12 ((w10.alloc (.cells #[.int .i64 0] 3)).heap.size + 1) [.int .i64 h] 3 := by
                  have k2 := dD.new ((w10.alloc (.cells #[.int .i64 0] 3)).alloc (.cells #[.pointer (some ⟨R, 0, none⟩)] 29)) [.int .i64 h] 3
                  rw [show ((w10.alloc (.cells #[.int .i64 0] 3)).alloc (.cells #[.pointer (some ⟨R, 0, none⟩)] 29)).heap.size = (w10.alloc (.cells #[.int .i64 0] 3)).heap.size + 1 by simp] at k2
                  rw [hw12]; exact k2
                have hI : UM w10.heap.size w10 w12 := ⟨by omega, fun k cs t fr hk => (hb12.block k (hlt hk)).trans hk, fun k hk => (by
                  unfold J3 at hk
                  have := k12.cell 0
                  simp only [List.getElem?_cons_zero] at this
                  rw [this] at hk; cases hk), by omega, by omega⟩
                rw [hs0] at hBs hBh
                have HS12 := ae hs12
                have HA12 := ae (HA.out.still hb12)
                have HK12 := ae k12
                have HSq := ae (fun m => Yq (n := m) (b := w10.heap.size) (jF HA.out) h hh HIx.out hI hBs hBh)
                clear hw12 hBs hBh hI k12 hb12 hs12 hs0 g0 hgl
                go_wp2_with fail
                refine (wpIn_wide (n := 8)).1 ?_
                refine xE (α := Nat) (fun x a => { tmps := a.tmps.setIfInBounds 174 (.int .i64 (S.hd x)), defers := [] }) (by omega) (gf := 73) (lb := #[.pointer (some ⟨w10.heap.size + 1, 0, none⟩), .pointer (some ⟨w10.heap.size + 1 + 1, 0, none⟩)]) rfl (enters_of Tryz.func73 (by kernel_rfl) rfl) (HSq.out 7) EZ.trans (fun W l o o' hl h hc _ => EZ.Ue l o o' h hc (by have := HS12.out; omega)) (fun _ => rfl)
                  (fun pre W => All w.heap.size w (kK g R Q (.slice hva X.length hvc) Hs S (.slice (some ⟨gs, 0, none⟩) S.slots.length caps) fv8 nv X ++ []) W ∧ dD W w10.heap.size [.int .i64 0] 3) (fun c pre W => False) ?own (fun _ _ _ _ _ hs _ _ => hs) ⟨HA12.out, HK12.out⟩ ?assign ?body ?done ?stop
                case own =>
                  rintro pre W W' row ⟨h1, h2⟩ hg hr
                  exact ⟨HA12.out.YG h1 hg hr, Io h2 hg hr⟩
                case assign =>
                  intro l x W K hK
                  gi_wp2
                  exact hK
                case stop =>
                  intro D c pre W hD hs hx
                  cases hx
                case body =>
                  intro l' pre x W hI hlt
                  omega
                case done =>
                  rintro D ys W hD rfl ⟨hA, h2⟩ hK
                  have HK := ae hK
                  have hDl := hlt hK
                  have c26 := h2.cell 0
                  simp only [List.getElem?_cons_zero] at c26
                  have HA := ae hA
                  have g0 := (bF hA).cell 0
                  have hgl := (bF hA).lt
                  simp only [List.getElem?_cons_succ, List.getElem?_cons_zero] at g0
                  clear h2 hA hK HSq
                  go_wp2_with fail
                  refine (Yw (jF HA.out) h hh HIx.out).mono ?_
                  rintro e w13 ⟨rfl, hb⟩
                  have hA := HA.out.still hb
                  have HK := ae ((hb.block D (hlt HK.out)).trans HK.out)
                  have HA := ae hA
                  have g0 := (bF hA).cell 0
                  have hgl := (bF hA).lt
                  simp only [List.getElem?_cons_succ, List.getElem?_cons_zero] at g0
                  clear hA hb
                  go_wp2_with fail
                  refine (index_none (jF HA.out) h hh HIx.out).mono ?_
                  rintro e w13 ⟨rfl, hb⟩
                  have hA := HA.out.still hb
                  have HK := ae ((hb.block D (hlt HK.out)).trans HK.out)
                  have HA := ae hA
                  have g0 := (bF hA).cell 0
                  have hgl := (bF hA).lt
                  simp only [List.getElem?_cons_succ, List.getElem?_cons_zero] at g0
                  clear hA hb
                  go_wp2_with fail
                  refine (Yz (jF HA.out) h hh HIx.out).mono ?_
                  rintro e w13 ⟨rfl, hb⟩
                  have hA := HA.out.still hb
                  have HK := ae ((hb.block D (hlt HK.out)).trans HK.out)
                  have HA := ae hA
                  have g0 := (bF hA).cell 0
                  have hgl := (bF hA).lt
                  simp only [List.getElem?_cons_succ, List.getElem?_cons_zero] at g0
                  clear hA hb
                  go_wp2_with fail
                  refine (Yr (jF HA.out) h hh HIx.out).mono ?_
                  rintro e w13 ⟨rfl, hb⟩
                  have hA := HA.out.still hb
                  have HK := ae ((hb.block D (hlt HK.out)).trans HK.out)
                  have HA := ae hA
                  have g0 := (bF hA).cell 0
                  have hgl := (bF hA).lt
                  simp only [List.getElem?_cons_succ, List.getElem?_cons_zero] at g0
                  clear hA hb
                  go_wp2_with fail
                  refine (Yy (HHs.out ▸ HA.out) HT.out trivial (by omega)).mono ?_
                  rintro e w14 ⟨rfl, hb⟩
                  have HK := ae ((hb.block D (hlt HK.out)).trans HK.out)
                  have HB := ae (HA.out.below.trans (hb.mono HA.out.below.size))
                  have hDl := hlt HK.out
                  clear hb g0 hgl
                  go_wp2_with fail
                  refine DL HK.out ?_
                  refine ⟨.bool true, ?_, rfl, Gm _ HB.out (by have := HS12.out; have := HA12.out.below.size; omega) hDl⟩
                  simp [results, Tryz.f5, go_sem]
end Go.Proofs.YtfelmdkeaacfeaaGreatDoor.W
end
