/- Texts joined: Hgt May Set LinkP. -/
import Derived.Test.YtfelmdkeaacfeaaGreatDoorTB1
import Derived.Test.YtfelmdkeaacfeaaGreatDoorTB2
set_option maxRecDepth 100000
set_option maxHeartbeats 40000000
set_option linter.unusedVariables false
set_option linter.unusedSimpArgs false
section
namespace Go.Proofs.YtfelmdkeaacfeaaGreatDoor.W
open Go.RowKit
def hgt (K:Nat→List Nat):Nat→Nat→Nat
 | 0,_=>1
 | f+1,i=>(K i).foldl (fun m k=>max m (hgt K f k)) 0+1
theorem oI {α : Type}(f:α→Nat)(B:Nat):∀(l:List α) (m:Nat),m≤B→(∀k∈l,f k≤B)→l.foldl (fun m k=>max m (f k)) m≤B
 | [],m,h,_=>h
 | k :: l,m,h,hl=>oI f B l (max m (f k)) (by have:=hl k (by simp);omega) (fun x hx=>hl x (by simp [hx]))
theorem ql (K:Nat→List Nat):∀f i,hgt K f i≤f+1
 | 0,_=>au _
 | f+1,i=>by
  unfold hgt
  have:=oI (hgt K f) (f+1) (K i) 0 (by omega) (fun k _=>ql K f k)
  omega
theorem pO {w:World}{B n:Nat}{v:Value}{l:List Int}(h:w.ownsRow B 3 1 v n (hC l)){j:Nat}{x:Int}(hx:l[j]? = some x):∃gv cap,v=.slice (some ⟨gv,0,none⟩) n cap∧w.cell? ⟨gv,j,none⟩=some (.int .i64 x):=by
 rcases h.2 with ⟨rfl,e⟩ | ⟨gv,cap,cur,rfl,_⟩
 ·have hl:=h.1
  have:=(ai.1 hx).1
  simp [hC] at hl
  omega
 ·refine⟨gv,cap,rfl,?_⟩
  have:=h.cells (g:=gv) rfl j (.int .i64 x) (by unfold hC;rw [bI,hx];rfl)
  rwa [show(⟨gv,0,none⟩:Addr).add j=⟨gv,j,none⟩ by unfold Addr.add;split <;> simp_all] at this
theorem bP {w:World}{B e sz n:Nat}{v:Value}{xs:List Value}(h:w.ownsRow B e sz v n xs):∃a cap,v=.slice a n cap:=by
 rcases h.2 with ⟨rfl,e⟩ | ⟨g,cap,cur,rfl,_⟩
 ·exact⟨none,0,by rw [e]⟩
 ·exact⟨_,_,rfl⟩
def WE (w:World)(K:Nat→List Nat)(f:Nat)(l:List Nat)(v:Value)(S:Tr)(mv jv:Value)(wr:World):Prop :=
 ∃j:Nat,j≤l.length∧jv=.int .i64 (j:Int)∧mv=.int .i64 (((l.take j).foldl (fun m k=>max m (hgt K f k)) 0:Nat):Int)∧wr.ownsRow w.heap.size 3 1 v l.length (hC (l.map S.hd))∧Below w.heap.size w wr
theorem height_any {B R g cap:Nat}{S:Tr}{fv:Value}{K:Nat→List Nat}{d:Nat→Nat}(hL:Lk S K d):∀(f i:Nat) (n:Nd),S.at i=some n→128 - d i=f→∀w,fZ B R S (.slice (some ⟨g,0,none⟩) S.slots.length cap) fv w →
  Calls Tryz.prog 56 #[.pointer (some ⟨R,0,none⟩),.int .i64 (S.hd i)] w fun e w'=>e=.returned (.int .i64 (hgt K f i:Int))∧Below w.heap.size w w':=by
 intro f
 induction f with
 | zero =>
  intro i n hi hf w h
  have hK:K i=[]:=by
   cases e:K i with
   | nil=>rfl
   | cons k t =>
    have h1:=hL.qc i k (by rw [e];simp)
    have h2:=hL.low k
    omega
  have HA:=ae (pV h hL i n hi)
  rw [hK] at HA
  clear h
  go_enter Tryz.func56,Tryz.ntmps56
  go_wp2_with fail
  refine HA.out.mono ?_
  rintro e w2 ⟨v,rfl,hown,hb2⟩
  obtain⟨a,cp,rfl⟩:=bP hown
  simp only [List.length_nil]
  go_wp2_with fail
  go_loopw [5,12] (fun mv jv wr=>mv=.int .i64 0∧jv=.int .i64 0∧Below w.heap.size w wr) (fun _ _ _=>0)
  case atStart=>exact⟨rfl,rfl,hb2⟩
  case round =>
   obtain⟨rfl,rfl,hB⟩:=hrel
   go_wp2_with fail
   go_ret
   exact⟨rfl,hB⟩
 | succ f ih =>
  intro i n hi hf w h
  have HA:=ae (pV h hL i n hi)
  have HT:=ae h
  have hkl:=lX hL i
  clear h
  have HIH:=ae ih
  clear ih
  go_enter Tryz.func56,Tryz.ntmps56
  go_wp2_with fail
  refine HA.out.mono ?_
  rintro e w2 ⟨v,rfl,hown,hb2⟩
  obtain⟨a,cp,rfl⟩:=bP hown
  go_wp2_with fail
  go_loopw [5,12] (fun mv jv wr=>WE w K f (K i) (.slice a (K i).length cp) S mv jv wr) (fun _ jv _=>(K i).length - (intOf jv).toNat)
  case atStart=>exact⟨0,by omega,rfl,rfl,hown,hb2⟩
  case round =>
   obtain⟨j,hj,rfl,rfl,ho,hB⟩:=hrel
   by_cases hlt:j < (K i).length
   ·obtain⟨k,hk⟩:∃k,(K i)[j]? = some k:=⟨_,ay hlt⟩
    obtain⟨nk,hnk⟩:=hL.some hk
    obtain⟨gv,cp2,hv,hc⟩:=pO ho (x:=S.hd k) (by rw [bI,hk];rfl)
    have hdk:=hL.qc i k (ah hk)
    have hlow:=hL.low k
    have HH:=ae (HIH.out k nk hnk (by omega) wr (HT.out.below hB))
    have hmx:=oI (hgt K f) (f+1) ((K i).take j) 0 (by omega) (fun k _=>ql K f k)
    have hhk:=ql K f k
    have HM:=ae (show((K i).take (j+1)).foldl (fun m k=>max m (hgt K f k)) 0=max (((K i).take j).foldl (fun m k=>max m (hgt K f k)) 0) (hgt K f k) by
     rw [fJ,hk];simp)
    have HO:=ae ho
    clear ho
    generalize ((K i).take j).foldl (fun m k=>max m (hgt K f k)) 0=M at *
    generalize hgt K f k=H at *
    generalize S.hd k=hk1 at *
    cases hv
    go_wp2_with fail
    refine HH.out.mono ?_
    rintro e w6 ⟨rfl,hb6⟩
    have hB6:=hB.trans (hb6.mono hB.size)
    have HO6:=ae (fH HO.out hb6)
    go_wp2_with fail
    refine⟨⟨j+1,by omega,by go_num,?_,HO6.out,hB6⟩,by simp [intOf];omega⟩
    rw [HM.out]
    congr 1
    split <;> omega
   ·obtain rfl:j=(K i).length:=by omega
    rw [dE]
    have hmx:=oI (hgt K f) (f+1) (K i) 0 (by omega) (fun k _=>ql K f k)
    have HM:=ae (show hgt K (f+1) i=(K i).foldl (fun m k=>max m (hgt K f k)) 0+1 from rfl)
    generalize (K i).foldl (fun m k=>max m (hgt K f k)) 0=M at *
    clear ho
    go_wp2_with fail
    go_ret
    exact⟨by rw [HM.out];simp,hB⟩
def oV (S:Tr)(c k:Nat):Bool:=k != c && (match S.at k with | some n=>n.kind == 2 | none=>false)
def nU (S:Tr)(K:Nat→List Nat)(d:Nat→Nat)(p c:Nat)(np nc:Nd):Bool :=
 if nc.kind == 1 || mX S c (d p) (some p) then false
 else if np.kind == 2 || (np.kind == 1 && nc.kind == 4) then true
 else if np.kind != 1 || nc.kind != 2 then false
 else !((K p).any (oV S c))
theorem iD {w:World}{B B' e sz n:Nat}{v:Value}{xs:List Value}(h:w.ownsRow B e sz v n xs)(hb:B'≤B):w.ownsRow B' e sz v n xs :=
 ⟨h.1,h.2.imp id fun⟨g,cap,cur,h1,h2,h3⟩=>⟨g,cap,cur,h1,aQ hb h2,h3⟩⟩
def Wv (w:World)(S:Tr)(l:List Nat)(c:Nat)(v:Value)(jv:Value)(wr:World):Prop :=
 ∃j:Nat,j≤l.length∧jv=.int .i64 (j:Int)∧(l.take j).any (oV S c)=false∧wr.ownsRow w.heap.size 3 1 v l.length (hC (l.map S.hd))∧Below w.heap.size w wr
theorem uk {B R g cap:Nat}{S:Tr}{fv:Value}{w:World}{K:Nat→List Nat}{d:Nat→Nat}(h:fZ B R S (.slice (some ⟨g,0,none⟩) S.slots.length cap) fv w)(hL:Lk S K d)(p c:Nat)(np nc:Nd)(hp:S.at p=some np)(hc:S.at c=some nc) :
  Calls Tryz.prog 54 #[.pointer (some ⟨R,0,none⟩),.int .i64 (S.hd p),.int .i64 (S.hd c)] w fun e w'=>e=.returned (.bool (nU S K d p c np nc))∧Below w.heap.size w w':=by
 have HP:=ae (fun wx (hb:Below w.heap.size w wx)=>bV (h.below hb) (S.hd p) (hd_ok hL hp).1 (fV hL hp))
 have HC:=ae (fun wx (hb:Below w.heap.size w wx)=>bV (h.below hb) (S.hd c) (hd_ok hL hc).1 (fV hL hc))
 have HN:=ae (fun wx (hb:Below w.heap.size w wx)=>Ij (h.below hb) hL c p nc np hc hp)
 have HK:=ae (fun wx (hb:Below w.heap.size w wx)=>pV (h.below hb) hL p np hp)
 have HT:=ae h
 have kp:=fun wx (hb:Below w.heap.size w wx)=>bK (h.below hb) hp 0 (by omega)
 have kc:=fun wx (hb:Below w.heap.size w wx)=>bK (h.below hb) hc 0 (by omega)
 simp only [jd,List.getElem?_cons_zero,Nat.add_zero] at kp kc
 have HKP:=ae kp
 have HKC:=ae kc
 have HLL:=ae hL
 have hpl:=iy hp
 have hcl:=iy hc
 have hkl:=lX hL p
 have HHC:=ae hc
 clear h kp kc hL hp hc
 have key:∀r:Bool,nU S K d p c np nc=r→Calls Tryz.prog 54 #[.pointer (some ⟨R,0,none⟩),.int .i64 (S.hd p),.int .i64 (S.hd c)] w (fun e w'=>e=.returned (.bool r)∧Below w.heap.size w w') →
   Calls Tryz.prog 54 #[.pointer (some ⟨R,0,none⟩),.int .i64 (S.hd p),.int .i64 (S.hd c)] w fun e w'=>e=.returned (.bool (nU S K d p c np nc))∧Below w.heap.size w w':=fun r h k=>by rw [h];exact k
 unfold nU at key ⊢
 generalize hkp:np.kind=kp at *
 generalize hkc:nc.kind=kc at *
 generalize hct:mX S c (d p) (some p)=ct at *
 by_cases k1:kc=1
 ·refine key false (by simp [k1]) ?_
  clear key
  subst k1
  go_enter Tryz.func54,Tryz.ntmps54
  go_wp2_with fail
  refine(HP.out _ (ak _ _)).mono ?_
  rintro e w2 ⟨rfl,hb2⟩
  go_wp2_with fail
  refine(HC.out _ hb2).mono ?_
  rintro e w3 ⟨rfl,hb3⟩
  have hB3:=hb2.trans (hb3.mono hb2.size)
  have c1:=HKC.out _ hB3
  go_wp2_with fail
  all_goals go_ret
  all_goals exact⟨rfl,hB3⟩
 ·have b1:(kc == 1)=false:=by simpa using k1
  cases ct with
  | true =>
   refine key false (by simp) ?_
   clear key
   go_enter Tryz.func54,Tryz.ntmps54
   go_wp2_with fail
   refine(HP.out _ (ak _ _)).mono ?_
   rintro e w2 ⟨rfl,hb2⟩
   go_wp2_with fail
   refine(HC.out _ hb2).mono ?_
   rintro e w3 ⟨rfl,hb3⟩
   have hB3:=hb2.trans (hb3.mono hb2.size)
   have c1:=HKC.out _ hB3
   go_wp2_with fail
   refine(HN.out _ hB3).mono ?_
   rintro e w4 ⟨rfl,hb4⟩
   have hB4:=hB3.trans (hb4.mono hB3.size)
   go_wp2_with fail
   all_goals go_ret
   all_goals exact⟨rfl,hB4⟩
  | false =>
   simp only [b1,WW,iV,iJ] at key ⊢
   by_cases p2:kp=2
   ·refine key true (by simp [p2]) ?_
    subst p2
    clear key
    go_enter Tryz.func54,Tryz.ntmps54
    go_wp2_with fail
    refine(HP.out _ (ak _ _)).mono ?_
    rintro e w2 ⟨rfl,hb2⟩
    go_wp2_with fail
    refine(HC.out _ hb2).mono ?_
    rintro e w3 ⟨rfl,hb3⟩
    have hB3:=hb2.trans (hb3.mono hb2.size)
    have c1:=HKC.out _ hB3
    go_wp2_with fail
    refine(HN.out _ hB3).mono ?_
    rintro e w4 ⟨rfl,hb4⟩
    have hB4:=hB3.trans (hb4.mono hB3.size)
    have c1:=HKC.out _ hB4
    have c2:=HKP.out _ hB4
    go_wp2_with fail
    all_goals go_ret
    all_goals exact⟨rfl,hB4⟩
   ·have b2:(kp == 2)=false:=by simpa using p2
    by_cases p1:kp=1
    ·subst p1
     by_cases k4:kc=4
     ·refine key true (by simp [k4]) ?_
      subst k4
      clear key
      go_enter Tryz.func54,Tryz.ntmps54
      go_wp2_with fail
      refine(HP.out _ (ak _ _)).mono ?_
      rintro e w2 ⟨rfl,hb2⟩
      go_wp2_with fail
      refine(HC.out _ hb2).mono ?_
      rintro e w3 ⟨rfl,hb3⟩
      have hB3:=hb2.trans (hb3.mono hb2.size)
      have c1:=HKC.out _ hB3
      go_wp2_with fail
      refine(HN.out _ hB3).mono ?_
      rintro e w4 ⟨rfl,hb4⟩
      have hB4:=hB3.trans (hb4.mono hB3.size)
      have c1:=HKC.out _ hB4
      have c2:=HKP.out _ hB4
      go_wp2_with fail
      all_goals go_ret
      all_goals exact⟨rfl,hB4⟩
     ·have b4:(kc == 4)=false:=by simpa using k4
      by_cases k2:kc=2
      ·subst k2
       refine key (!((K p).any (oV S c))) (by simp) ?_
       clear key
       go_enter Tryz.func54,Tryz.ntmps54
       go_wp2_with fail
       refine(HP.out _ (ak _ _)).mono ?_
       rintro e w2 ⟨rfl,hb2⟩
       go_wp2_with fail
       refine(HC.out _ hb2).mono ?_
       rintro e w3 ⟨rfl,hb3⟩
       have hB3:=hb2.trans (hb3.mono hb2.size)
       have c1:=HKC.out _ hB3
       go_wp2_with fail
       refine(HN.out _ hB3).mono ?_
       rintro e w4 ⟨rfl,hb4⟩
       have hB4:=hB3.trans (hb4.mono hB3.size)
       have c1:=HKC.out _ hB4
       have c2:=HKP.out _ hB4
       go_wp2_with fail
       refine(HK.out _ hB4).mono ?_
       rintro e w5 ⟨v,rfl,hown,hb5⟩
       have hB5:=hB4.trans (hb5.mono hB4.size)
       obtain⟨a,cp,rfl⟩:=bP hown
       have hown':=iD hown hB4.size
       clear hown
       go_wp2_with fail
       go_loopw [63] (fun jv wr=>Wv w S (K p) c (.slice a (K p).length cp) jv wr) (fun jv _=>(K p).length - (intOf jv).toNat)
       case atStart=>exact⟨0,by omega,rfl,rfl,hown',hB5⟩
       case round =>
        obtain⟨j,hj,rfl,hall,ho,hB⟩:=hrel
        by_cases hlt:j < (K p).length
        ·obtain⟨k,hk⟩:∃k,(K p)[j]? = some k:=⟨_,ay hlt⟩
         obtain⟨nk,hnk⟩:=HLL.out.some hk
         obtain⟨gv,cp2,hv,hcl2⟩:=pO ho (x:=S.hd k) (by rw [bI,hk];rfl)
         have hta:((K p).take (j+1)).any (oV S c)=(((K p).take j).any (oV S c) || oV S c k):=by rw [fJ,hk];simp
         rw [hall,iE] at hta
         have hkl2:=iy hnk
         have hfew:=HLL.out.few
         cases hv
         by_cases hkc2:k=c
         ·subst hkc2
          have HE:=ae (hta.trans (show oV S k k=false by simp [oV]))
          have HO:=ae ho
          clear hta ho hall
          go_wp2_with fail
          exact⟨⟨j+1,by omega,by go_num,HE.out,HO.out,hB⟩,by simp [intOf];omega⟩
         ·have hne:¬S.hd k=S.hd c:=fun e=>hkc2 (zJ (by omega) (by omega) e)
          have hne2:(S.hd k != S.hd c)=true:=by simpa using hne
          have HK2:=ae (bV (HT.out.below hB) (S.hd k) (hd_ok HLL.out hnk).1 (fV HLL.out hnk))
          have HCK:=ae (fun wx (hb:Below w.heap.size w wx)=>bK (HT.out.below hb) hnk 0 (by omega))
          have he:oV S c k=(nk.kind == 2):=by unfold oV;rw [hnk];simp [hkc2]
          rw [he] at hta
          have hmem:oV S c k=true→(K p).any (oV S c)=true:=fun h=>WZ.2 ⟨k,ah hk,h⟩
          rw [he] at hmem
          obtain⟨kk,hkk⟩:∃kk,nk.kind=kk:=⟨_,rfl⟩
          rw [hkk] at hta hmem he
          have HKK:=ae hkk
          clear hkk
          by_cases hk2:kk=2
          ·subst hk2
           have HE:=ae (hmem rfl)
           have HO:=ae ho
           clear hta ho hall hmem he
           go_wp2_with fail
           refine HK2.out.mono ?_
           rintro e w6 ⟨rfl,hb6⟩
           have hB6:=hB.trans (hb6.mono hB.size)
           have c0:=HCK.out _ hB6
           simp only [jd,List.getElem?_cons_zero,Nat.add_zero] at c0
           rw [HKK.out] at c0
           go_wp2_with fail
           all_goals go_ret
           all_goals exact⟨by rw [HE.out];rfl,hB6⟩
          ·have HE:=ae (hta.trans (show(kk == 2)=false by simpa using hk2))
           have hk2b:(kk == 2)=false:=by simpa using hk2
           have HO:=ae ho
           clear hta ho hall hmem he
           go_wp2_with fail
           refine HK2.out.mono ?_
           rintro e w6 ⟨rfl,hb6⟩
           have hB6:=hB.trans (hb6.mono hB.size)
           have c0:=HCK.out _ hB6
           simp only [jd,List.getElem?_cons_zero,Nat.add_zero] at c0
           rw [HKK.out] at c0
           go_wp2_with fail
           exact⟨⟨j+1,by omega,by go_num,HE.out,fH HO.out hb6,hB6⟩,by simp [intOf];omega⟩
        ·obtain rfl:j=(K p).length:=by omega
         rw [dE] at hall
         have HE:=ae hall
         clear hall ho
         go_wp2_with fail
         go_ret
         exact⟨by rw [HE.out];rfl,hB⟩
      ·have b5:(kc == 2)=false:=by simpa using k2
       refine key false (by simp only [b4,b5,bne,Xv,WW,Bool.not_false,Bool.or_true,oW];rfl) ?_
       clear key
       go_enter Tryz.func54,Tryz.ntmps54
       go_wp2_with fail
       refine(HP.out _ (ak _ _)).mono ?_
       rintro e w2 ⟨rfl,hb2⟩
       go_wp2_with fail
       refine(HC.out _ hb2).mono ?_
       rintro e w3 ⟨rfl,hb3⟩
       have hB3:=hb2.trans (hb3.mono hb2.size)
       have c1:=HKC.out _ hB3
       go_wp2_with fail
       refine(HN.out _ hB3).mono ?_
       rintro e w4 ⟨rfl,hb4⟩
       have hB4:=hB3.trans (hb4.mono hB3.size)
       have c1:=HKC.out _ hB4
       have c2:=HKP.out _ hB4
       go_wp2_with fail
       all_goals go_ret
       all_goals exact⟨rfl,hB4⟩
    ·have b3:(kp == 1)=false:=by simpa using p1
     refine key false (by simp only [b2,b3,bne,uM,WW,Bool.not_false,Bool.true_or,oW,iV,iJ]) ?_
     clear key
     go_enter Tryz.func54,Tryz.ntmps54
     go_wp2_with fail
     refine(HP.out _ (ak _ _)).mono ?_
     rintro e w2 ⟨rfl,hb2⟩
     go_wp2_with fail
     refine(HC.out _ hb2).mono ?_
     rintro e w3 ⟨rfl,hb3⟩
     have hB3:=hb2.trans (hb3.mono hb2.size)
     have c1:=HKC.out _ hB3
     go_wp2_with fail
     refine(HN.out _ hB3).mono ?_
     rintro e w4 ⟨rfl,hb4⟩
     have hB4:=hB3.trans (hb4.mono hB3.size)
     have c1:=HKC.out _ hB4
     have c2:=HKP.out _ hB4
     go_wp2_with fail
     all_goals go_ret
     all_goals exact⟨rfl,hB4⟩
theorem gV {w:World}{B e size g n cap:Nat}{xs:List Value}(h:w.ownsRow B e size (.slice (some ⟨g,0,none⟩) n cap) n xs)(j:Nat)(u:Value):(w.setCell ⟨g,j,none⟩ u).ownsRow B e size (.slice (some ⟨g,0,none⟩) n cap) n (xs.set j u):=by
 have hB:=(h.lt g rfl).1
 have h0:=tZ (iD h (aZ B)) j u
 refine⟨h0.1,?_⟩
 rcases h0.2 with ⟨e,_⟩ | ⟨g',cap',cur,e,_,rest⟩
 ·cases e
 ·cases e
  exact .inr ⟨g,cap,cur,rfl,hB,rest⟩
def Tr.put (S:Tr)(i:Nat)(n:Nd):Tr:={ S with slots:=S.slots.set i (some n) }
theorem Jn {S:Tr}{i:Nat}{n n':Nd}(h:S.at i=some n):(S.put i n').live=S.live:=by
 have hs:=dN h
 unfold Tr.live Tr.put
 simp only []
 generalize S.slots=l at hs ⊢
 clear h
 induction l generalizing i with
 | nil=>simp at hs
 | cons x l ih =>
  cases i with
  | zero=>simp at hs;subst hs;simp
  | succ i =>
   have:=ih (by simpa using hs:l[i]? = some (some n))
   simp only [List.set_cons_succ,List.filter_cons]
   split <;> simp [this]
theorem dw {w:World}{g h:Nat}{cs cs':Array Value}{t t':TypeId}{f f':Nat×Nat}(h1:w.heap[g]? = some (.cells cs t f))(h2:w.heap[h]? = some (.cells cs' t' f'))(ht:t≠t'):g≠h:=by
 rintro rfl
 rw [h1] at h2
 simp only [mY,Obj.cells.injEq] at h2
 exact ht h2.2.1
theorem fZ.rX {B R g cap:Nat}{S:Tr}{fv:Value}{w:World}(h:fZ B R S (.slice (some ⟨g,0,none⟩) S.slots.length cap) fv w){i:Nat}{n n':Nd}(hi:S.at i=some n)(j:Nat)(u:Value)(hj:j < 9)
  (hn:jd n'=(jd n).set j u)(hav:n'.av=n.av)(hat:n'.attrs=n.attrs) :
  fZ B R (S.put i n') (.slice (some ⟨g,0,none⟩) (S.put i n').slots.length cap) fv (w.setCell ⟨g,i*10+1+j,none⟩ u):=by
 have hlt:=iy hi
 have hlen:(S.put i n').slots.length=S.slots.length:=by unfold Tr.put;simp
 obtain⟨cur,hg⟩:∃cur,w.heap[g]? = some (.cells cur 159 (0,0)):=by
  rcases h.slots.2 with ⟨e,_⟩ | ⟨g',cap',cur,e,_,hh,_⟩
  ·cases e
  ·cases e;exact⟨cur,hh⟩
 have other:∀{k:Nat} {cs:Array Value} {t:TypeId},w.heap[k]? = some (.cells cs t (0,0))→159≠t→(w.setCell ⟨g,i*10+1+j,none⟩ u).heap[k]? = w.heap[k]?:=fun hk ht=>aF _ _ _ _ (fun e=>dw hg hk ht e.symm)
 rw [hlen]
 refine⟨?_,?_,?_,?_,h.base,by rw [hlen];exact h.few⟩
 ·have:=h.blk.kept (other h.blk (by decide))
  rw [Jn hi]
  exact this
 ·rw [hlen]
  have:=gV h.slots (i*10+1+j) u
  have e:nS (S.put i n').slots=(nS S.slots).set (i*10+1+j) u:=by
   have:=IX S.slots i (some n') hlt (1+j) u (by omega) (some n) (dN hi) (by
    show Value.bool true :: jd n'=(Value.bool true :: jd n).set (1+j) u
    rw [hn,oZ 1 j];rfl)
   rw [← lN] at this
   exact this
  rw [e]
  exact this
 ·obtain⟨h1,h2⟩:=h.free
  refine⟨h1,h2.imp id fun⟨g',cap',cur',e1,e2,e3,rest⟩=>⟨g',cap',cur',e1,e2,(other e3 (by decide)).trans e3,rest⟩⟩
 ·intro k m hk
  have hcase:(k=i∧m=n')∨S.slots[k]? = some (some m):=by
   unfold Tr.put at hk
   simp only [] at hk
   by_cases e:i=k
   ·subst e
    rw [iR hlt] at hk
    left;exact⟨rfl,by simpa using hk.symm⟩
   ·rw [jM e] at hk
    right;exact hk
  have hold:jA B w m.av m.attrs:=by
   rcases hcase with ⟨rfl,rfl⟩ | hk
   ·rw [hav,hat];exact h.attrs k n (dN hi)
   ·exact h.attrs k m hk
  obtain⟨a,cp,e,hx⟩:=hold
  exact⟨a,cp,e,hx.imp id fun⟨g',cur',e1,e2,e3,e4⟩=>⟨g',cur',e1,e2,(other e3 (by decide)).trans e3,e4⟩⟩
theorem dC {S:Tr}{i:Nat}{n n':Nd}(hi:S.at i=some n)(k:Nat):(S.put i n').at k=if k=i then some n' else S.at k:=by
 have hlt:=iy hi
 unfold Tr.at Tr.put
 simp only []
 rw [dH]
 by_cases e:i=k
 ·subst e;simp [hlt]
 ·rw [ax e,ax (fun h=>e h.symm)]
theorem Ut (S:Tr)(i:Nat)(n:Nd)(k:Nat):(S.put i n).hd k=S.hd k:=rfl
end Go.Proofs.YtfelmdkeaacfeaaGreatDoor.W
end
section
namespace Go.Proofs.YtfelmdkeaacfeaaGreatDoor.W
def jI (S:Tr)(l:List Nat)(p j c x:Nat)(n:Nd):Nd :=
 { n with
  parent:=if x=c then S.hd p else n.parent
  prev:=if x=c then hO S (pv l j) else if l[j]? = some x then S.hd c else n.prev
  next:=if x=c then hO S l[j]? else if pv l j=some x then S.hd c else n.next
  first:=if x=p∧j=0 then S.hd c else n.first
  last:=if x=p∧j=l.length then S.hd c else n.last }
def jK (K:Nat→List Nat)(p j c:Nat)(q:Nat):List Nat:=if q=p then(K p).take j ++ c :: (K p).drop j else K q
theorem AY (l:List Nat)(j c i:Nat)(hj:j≤l.length):(l.take j ++ c :: l.drop j)[i]? = if i < j then l[i]? else if i=j then some c else l[i - 1]?:=by
 by_cases h1:i < j
 ·rw [aC h1,di (by rw [fC];omega),eX,aC h1]
 ·rw [ax h1,bZ (by rw [fC];omega),fC,rQ hj]
  by_cases h2:i=j
  ·rw [aC h2,h2,jY];rfl
  ·rw [ax h2,show i - j=(i - 1 - j)+1 by omega,List.getElem?_cons_succ,oM]
   congr 1;omega
theorem Lk.rD {S K d}(h:Lk S K d){p q x:Nat}(hp:x∈K p)(hq:x∈K q):p=q:=by
 obtain⟨n,hn⟩:=aB.1 (h.kin p x hp).2
 obtain⟨np,hnp⟩:=aB.1 (h.kin p x hp).1
 obtain⟨nq,hnq⟩:=aB.1 (h.kin q x hq).1
 obtain⟨i,hi⟩:=aI.1 hp
 obtain⟨j,hj⟩:=aI.1 hq
 have h1:=(h.kid p i x n hi hn).1
 have h2:=(h.kid q j x n hj hn).1
 have:=h.few
 have a:=iy hnp
 have b:=iy hnq
 exact zJ (by omega) (by omega) (h1.symm.trans h2)
theorem Lk.link {S S':Tr}{K:Nat→List Nat}{d d':Nat→Nat}(h:Lk S K d){p j c:Nat}{np nc:Nd}(hp:S.at p=Option.some np)(hc:S.at c=Option.some nc)(hj:j≤(K p).length)
  (hdet:∀q,c∉K q)(hpc:p≠c)
  (hat:∀x,S'.at x=(S.at x).map (jI S (K p) p j c x))(hlen:S'.slots.length=S.slots.length)(hhd:∀x,S'.hd x=S.hd x)
  (hd1:d' c=d p+1)(hd2:∀q k,k∈K q→d' k=d' q+1)(hd3:d' p=d p)(hd4:∀x,d' x≤128)(hd5:∀x,(S.at x).isSome=true→x≠c→(∀q,x∉K q)→d' x=1):Lk S' (jK K p j c) d':=by
 have hO':∀o,hO S' o=hO S o:=fun o=>by cases o with | none=>rfl | some x=>exact hhd x
 have hsome:∀x,(S'.at x).isSome=(S.at x).isSome:=fun x=>by rw [hat];cases S.at x <;> rfl
 have hmem:∀q k,k∈jK K p j c q↔(k∈K q∨(q=p∧k=c)):=by
  intro q k
  unfold jK
  by_cases e:q=p
  ·subst e
   rw [aC rfl,cZ,bn]
   constructor
   ·rintro(h | rfl | h)
    ·exact .inl (kE h)
    ·exact .inr ⟨rfl,rfl⟩
    ·exact .inl (kF h)
   ·rintro(h | ⟨_,rfl⟩)
    ·rw [← bG j (K q),cZ] at h
     rcases h with h | h
     ·exact .inl h
     ·exact .inr (.inr h)
    ·exact .inr (.inl rfl)
  ·rw [ax e]
   simp [e]
 have hcK:∀(i:Nat),(K p)[i]?≠Option.some c:=fun i e=>hdet p (ah e)
 refine⟨?_,?_,?_,?_,?_,?_,?_,hd4,by rw [hlen];exact h.few⟩
 ·intro q k hk
  rw [hsome,hsome]
  rcases(hmem q k).1 hk with hk | ⟨rfl,rfl⟩
  ·exact h.kin q k hk
  ·exact⟨by rw [hp];rfl,by rw [hc];rfl⟩
 ·intro x n' hx
  rw [hat] at hx
  obtain⟨n,hn,rfl⟩:=bJ.1 hx
  obtain⟨h1,h2⟩:=h.node x n hn
  rw [hO',hO']
  unfold jI jK
  simp only []
  by_cases e:x=p
  ·subst e
   rw [aC rfl,AY _ _ _ _ hj]
   constructor
   ·by_cases j0:j=0
    ·subst j0;simp [hO]
    ·rw [ax (fun h=>j0 h.2),aC (by omega)];exact h1
   ·rw [List.getLast?_append]
    by_cases jl:j=(K x).length
    ·subst jl;simp [hO]
    ·rw [ax (fun h=>jl h.2),h2]
     have hdn:(K x).drop j≠[]:=fun e=>by
      have:=bW List.length e
      rw [aS] at this
      simp at this;omega
     rw [List.getLast?_cons,List.getLast?_drop,ax (by omega)]
     cases e2:(K x).getLast? with
     | none=>rw [X5] at e2;rw [e2] at hdn;simp at hdn
     | some y=>simp
  ·rw [ax e,ax (fun h=>e h.1),ax (fun h=>e h.1)]
   exact⟨h1,h2⟩
 ·intro q i k n' hk hx
  rw [hat] at hx
  obtain⟨n,hn,rfl⟩:=bJ.1 hx
  rw [hO',hO',hhd]
  unfold jK at hk ⊢
  by_cases e:q=p
  ·subst e
   rw [aC rfl] at hk ⊢
   rw [AY _ _ _ _ hj] at hk
   rw [AY _ _ _ _ hj,AY _ _ _ _ hj]
   have hinj:∀{i i':Nat} {x:Nat},(K q)[i]? = Option.some x→(K q)[i']? = Option.some x→i'=i:=fun {i i' x} e1 e2=>by
    have hl':=(ai.1 e2).1
    exact(iK hl' (h.nodup q)).1 (e2.trans e1.symm)
   unfold jI
   simp only []
   by_cases i1:i < j
   ·rw [aC i1] at hk
    obtain⟨a1,a2,a3⟩:=h.kid q i k n hk hn
    have hkc:k≠c:=fun e=>hcK i (e ▸ hk)
    rw [ax hkc,ax hkc,ax hkc]
    refine⟨a1,?_,?_⟩
    ·rw [ax (fun e'=>by have:=hinj hk e';omega),a2]
     by_cases i0:i=0
     ·rw [aC i0,aC i0]
     ·rw [ax i0,ax i0,aC (by omega)]
    ·by_cases ij:i+1=j
     ·rw [aC (by unfold pv;rw [ax (by omega),show j - 1=i by omega];exact hk),ax (by omega),aC ij];rfl
     ·rw [ax (fun e'=>by
       unfold pv at e'
       split at e'
       ·cases e'
       ·have:=hinj hk e';omega),a3,aC (by omega)]
   ·rw [ax i1] at hk
    by_cases i2:i=j
    ·subst i2
     rw [aC rfl] at hk
     cases hk
     rw [aC rfl,aC rfl,aC rfl]
     refine⟨rfl,?_,?_⟩
     ·unfold pv
      by_cases i0:i=0
      ·rw [aC i0,aC i0]
      ·rw [ax i0,ax i0,aC (by omega)]
     ·rw [ax (by omega),ax (by omega),Nat.add_sub_cancel]
    ·rw [ax i2] at hk
     obtain⟨a1,a2,a3⟩:=h.kid q (i - 1) k n hk hn
     have hkc:k≠c:=fun e=>hcK _ (e ▸ hk)
     rw [ax hkc,ax hkc,ax hkc]
     refine⟨a1,?_,?_⟩
     ·rw [ax (by omega:¬i=0)]
      by_cases ij:i - 1=j
      ·rw [aC (by rw [← ij];exact hk),ax (by omega),aC ij];rfl
      ·rw [ax (fun e'=>by have:=hinj hk e';omega),a2,ax (by omega),ax (by omega),ax ij]
     ·rw [ax (fun e'=>by
       unfold pv at e'
       split at e'
       ·cases e'
       ·have:=hinj hk e';omega),a3,ax (by omega),ax (by omega),show i+1 - 1=i - 1+1 by omega]
  ·rw [ax e] at hk ⊢
   obtain⟨a1,a2,a3⟩:=h.kid q i k n hk hn
   have hkc:k≠c:=fun e'=>hdet q (e' ▸ ah hk)
   have hnp:∀i',(K p)[i']?≠Option.some k:=fun i' e'=>e (h.rD (ah hk) (ah e'))
   unfold jI
   simp only []
   rw [ax hkc,ax hkc,ax hkc,ax (hnp j),ax (c:=pv (K p) j=Option.some k) (fun e'=>by
    unfold pv at e'
    split at e'
    ·cases e'
    ·exact hnp _ e')]
   exact⟨a1,a2,a3⟩
 ·intro x n' hx hx2
  rw [hat] at hx
  obtain⟨n,hn,rfl⟩:=bJ.1 hx
  have hxc:x≠c:=fun e=>hx2 p ((hmem p x).2 (.inr ⟨rfl,e⟩))
  have hxK:∀q,x∉K q:=fun q hq=>hx2 q ((hmem q x).2 (.inl hq))
  obtain⟨a1,a2,a3⟩:=h.top x n hn hxK
  unfold jI
  simp only []
  rw [ax hxc,ax hxc,ax hxc,ax (fun e'=>hxK p (ah e')),ax (fun e'=>by
   unfold pv at e'
   split at e'
   ·cases e'
   ·exact hxK p (ah e'))]
  exact⟨a1,a2,a3⟩
 ·intro q
  unfold jK
  by_cases e:q=p
  ·rw [aC e]
   have hnd:=h.nodup p
   rw [← bG j (K p),jf] at hnd
   rw [jf]
   refine⟨hnd.1,?_,?_⟩
   ·rw [o8]
    exact⟨fun hh=>hdet p (kF hh),hnd.2.1⟩
   ·intro a ha b hb
    rw [bn] at hb
    rcases hb with rfl | hb
    ·rintro rfl;exact hdet p (kE ha)
    ·exact hnd.2.2 a ha b hb
  ·rw [ax e];exact h.nodup q
 ·intro q k hk
  rcases(hmem q k).1 hk with hk | ⟨rfl,rfl⟩
  ·exact hd2 q k hk
  ·rw [hd1,hd3]
 ·intro x hx hxK
  rw [hsome] at hx
  exact hd5 x hx (fun e=>hxK p ((hmem p x).2 (.inr ⟨rfl,e⟩))) (fun q hq=>hxK q ((hmem q x).2 (.inl hq)))
structure Linked (S S':Tr) (l:List Nat) (p j c:Nat):Prop where
 at_:∀x,S'.at x=(S.at x).map (jI S l p j c x)
 len:S'.slots.length=S.slots.length
 b:S'.b=S.b
 s:S'.s=S.s
 free:S'.free=S.free
 root:S'.root=S.root
theorem Linked.hd {S S':Tr}{l:List Nat}{p j c:Nat}(h:Linked S S' l p j c)(x:Nat):S'.hd x=S.hd x:=by unfold Tr.hd;rw [h.b,h.s]
end Go.Proofs.YtfelmdkeaacfeaaGreatDoor.W
end
