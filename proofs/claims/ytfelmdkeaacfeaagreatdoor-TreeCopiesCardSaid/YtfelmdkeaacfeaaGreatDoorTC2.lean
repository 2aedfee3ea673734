/- Texts joined: LwC. -/
import Derived.Test.YtfelmdkeaacfeaaGreatDoorTC1
set_option maxRecDepth 100000
set_option maxHeartbeats 40000000
set_option linter.unusedVariables false
set_option linter.unusedSimpArgs false
section
namespace Go.Proofs.YtfelmdkeaacfeaaGreatDoor.W
open Go.RowKit
def YY (w:World)(g n:Nat)(iv:Value)(wr:World):Prop:=∃i:Nat,i≤n∧iv=.int .i64 (i:Int) ∧
 ∃R Q hv sv fv nv S K d X σ,All w.heap.size w (kK g R Q hv (iZ S σ (ms X)) S sv fv nv X ++ []) wr∧CX True (fun _=>False) i 0 S K d (ms X) σ∧X.length≤400
def YZ (w:World)(g R Q n c0 x:Nat)(S2:Tr)(K2:Nat→List Nat)(E:Nat→Prop)(iv:Value)(wr:World):Prop:=∃i:Nat,i≤n∧iv=.int .i64 (i:Int) ∧
 ∃hv sv fv nv S K d X σ,All w.heap.size w (kK g R Q hv (iZ S σ (ms X)) S sv fv nv X ++ []) wr∧CX False E (c0+i) x S K d (ms X) σ∧S.b=S2.b∧S.s=S2.s∧∀y,E y→S.at y=S2.at y∧K y=K2 y
structure YS (g R Q gh i:Nat) (hv:Value) (hd:Int) (w:World):Prop where
 bk:dD w g [.pointer (some ⟨R,0,none⟩),.pointer (some ⟨Q,0,none⟩),hv] 33
 hc:w.cell? ⟨gh,i,none⟩=some (.int .i64 hd)
def YW (B:Nat)(w0:World)(l:List Ob)(g R Q:Nat)(hv:Value)(Hs:List Int)(nv:Value)(X:List MX)(S:Tr)(K:Nat→List Nat)(d:Nat→Nat)(i:Nat)(v:Value)(w':World):Prop :=
 ∃S' sv' fv' K' d' r,v=.tuple #[.int .i64 (S.hd (r i)),.int .i64 0]∧Cm S K d S' K' d' i K (dR K (128 - d i) i) r∧All B w0 (kK g R Q hv Hs S' sv' fv' nv X ++ l) w'
section
variable {B : Nat} {w0 w : World} {l : List Ob} {g R Q gh m vc y i : Nat} {hv sv fv nv : Value} {Hs : List Int} {S : Tr} {K : Nat → List Nat} {d : Nat → Nat} {X : List MX} {hd : Int}
theorem YM (v:Value)(w1 w2:World)(h:YW B w0 l g R Q hv Hs nv X S K d i v w1)(hb:Below w1.heap.size w1 w2):YW B w0 l g R Q hv Hs nv X S K d i v w2:=by
 obtain⟨S',sv',fv',K',d',r,e,hr,hA⟩:=h
 exact⟨S',sv',fv',K',d',r,e,hr,hA.still hb⟩
theorem YU (hA:All B w0 (kK g R Q (.slice (some ⟨gh,0,none⟩) m vc) Hs S sv fv nv X ++ l) w)(hc:w.cell? ⟨gh,y,none⟩=some (.int .i64 hd))(w':World)(h:jc w w'):YS g R Q gh y (.slice (some ⟨gh,0,none⟩) m vc) hd w' :=
 ⟨bF (hA.still h),aU h hc⟩
theorem YX (hn:Hs.length=m)(hi:Hs[y]? = some hd)(v:Value)(w':World)(h:YW B w0 l g R Q (.slice (some ⟨gh,0,none⟩) m vc) Hs nv X S K d i v w'):YS g R Q gh y (.slice (some ⟨gh,0,none⟩) m vc) hd w':=by
 obtain⟨S',sv',fv',K',d',r,e,hr,hA⟩:=h
 obtain⟨gh',e2,_,hc⟩:=jk hA hn y hd hi
 cases e2
 exact⟨bF hA,hc⟩
end
theorem Yt {w:World}(hL:Laid w)(A:Option Addr)(n c:Nat)(f:Nat→ou)(hP:UW w A n f)(hn:n≤9223372036854775807)(hf:∀j,(f j).In)(A2:Option Addr)(n2 c2:Nat)(f2:Nat→ou)(hP2:UW w A2 n2 f2)(hn2:n2≤9223372036854775807)(hf2:∀j,(f2 j).In)(a:Int)(ha0:0≤a)(ha1:a≤255) :
  Calls Tryz.prog 7 #[.slice A n c,.slice A2 n2 c2,.int .u8 a] w fun e w'=>e=.returned (.bool true)∧Below w.heap.size w w':=by
 obtain⟨a,rfl⟩:∃k:Nat,a=k:=⟨a.toNat,by omega⟩
 have HL:=ae hL
 have HP:=ae hP
 have HF:=ae hf
 have HP2:=ae hP2
 have HF2:=ae hf2
 clear hL hP hf hP2 hf2
 go_enter Tryz.func7,Tryz.ntmps7
 go_wp2_with fail
 refine(Gn w).mono ?_
 rintro e w1 ⟨rfl,hb1⟩
 have HB1:=ae hb1
 clear hb1
 go_wp2_with fail
 refine(Ph A n c f (HP.out.below HB1.out) hn).mono ?_
 rintro e w2 ⟨b,rfl,hfew,hw⟩
 rw [hw]
 clear hw
 cases b with
 | false =>
  go_wp2_with fail
  refine(Gn w1).mono ?_
  rintro e w3 ⟨rfl,hb3⟩
  have HB3:=ae (aV HB1.out hb3)
  clear hb3
  go_wp2_with fail
  go_ret
  exact⟨rfl,HB3.out⟩
 | true =>
  obtain⟨hn60,hstr⟩:=hfew rfl
  have HS:=ae hstr
  clear hfew hstr
  go_wp2_with fail
  refine(Ph A2 n2 c2 f2 (HP2.out.below HB1.out) hn2).mono ?_
  rintro e w2 ⟨b,rfl,hfew,hw⟩
  rw [hw]
  clear hw
  cases b with
  | false =>
   go_wp2_with fail
   refine(Gn w1).mono ?_
   rintro e w3 ⟨rfl,hb3⟩
   have HB3:=ae (aV HB1.out hb3)
   clear hb3
   go_wp2_with fail
   go_ret
   exact⟨rfl,HB3.out⟩
  | true =>
   obtain⟨hn60',hstr⟩:=hfew rfl
   have HS2:=ae hstr
   clear hfew hstr
   go_wp2_with fail
   refine(NL ((All.start w).still HB1.out) 0 0).mono ?_
   rintro e w3 ⟨g,R,Q,hv,sv,nv,X,rfl,hms,hA⟩
   have hX1:X.length=1:=by have:=bW List.length hms;rw [aY] at this;exact this
   have HR:=ae (show YY w g n (.int .i64 0) w3 from⟨0,aZ _,rfl,R,Q,hv,sv,_,nv,_,_,_,X,_,hA,hms ▸ NI 0 0,by omega⟩)
   clear hA hms hX1
   go_wp2_with fail
   go_loopw [8] (fun iv wr=>YY w g n iv wr) (fun iv _=>n - iW iv)
   case atStart=>exact HR.out
   case round =>
    obtain⟨i,hi,rfl,R,Q,hv,sv,fv,nv,S,K,d,X,σ,hA,hT,hX4⟩:=hrel
    obtain⟨ws,rfl⟩:∃q,q=wr:=⟨wr,rfl⟩
    have HA:=ae hA
    have HT:=ae hT
    have hHl:(iZ S σ (ms X)).length=X.length:=by rw [jJ,aY]
    obtain⟨hva,hvc,hvv⟩:=aW (lL hA)
    rw [hHl] at hvv
    subst hvv
    have g2:=(bF hA).cell 2
    simp only [fQ,fP] at g2
    have hgl:=(bF hA).lt
    have hSs:=hT.lim
    rw [aY] at hSs
    have hXp:0 < X.length:=by
     obtain⟨_,m0,hm0⟩:=hT.tw.zero
     have:=kH ⟨m0,hm0⟩
     rwa [aY] at this
    have HHl:=ae hHl
    clear hA hT hHl
    by_cases hgo:i < n∧X.length < 200
    ·obtain⟨hin,hx3⟩:=hgo
     have hii:(i:Int) < (n:Int):=by omega
     have hxx:decide ((X.length:Int) < 200)=true:=by simp;omega
     obtain⟨b,off,rfl,hbl,hc⟩:=(HP.out.below HA.out.below) (by omega)
     obtain⟨p0,p1,p2,p3,p4,p5,p6,p7⟩:=hc i hin
     clear hc
     go_wp2_with fail
     refine(UG (HL.out.below HA.out.below) HA.out HT.out (by omega) (by omega) (fun _=>by omega) (by omega) (f i) ((HF.out i).ok (HS.out i hin)) (fun y h=>h.elim)).mono ?_
     rintro e w5 ⟨v,ok,S',K',d',X',σ',hv',sv',fv',nv',ts,rs,dl,rfl,hA5,hT5,hex,_,_,_,hst,_⟩
     have hl5:=hst.len (N:=S.slots.length) (fun f j m hj=>HT.out.tw.oz HT.out.ok.lk f hj) (by
      obtain⟨n,hn,_⟩:=HT.out.ok.doc
      have:=iy hn
      omega)
     rw [aY,aY] at hl5
     have HA5:=ae hA5.tail
     have HT5:=ae hT5
     clear hA5 hT5 hex hst p0 p1 p2 p3 p4 p5 p6 p7 g2 hgl
     go_wp2_with fail
     go_roundw
     case rel=>exact⟨i+1,by omega,by go_num,_,_,_,_,_,_,_,_,_,_,_,HA5.out,HT5.out,by omega⟩
     case measure=>simp [iW];omega
    ·rcases(show n≤i∨(i < n∧200≤X.length) by omega) with h1 | ⟨h1,h2⟩
     all_goals
      first
       | (have h3:=h2;have hii:(i:Int) < (n:Int):=(by omega);have hxx:decide ((X.length:Int) < 200)=false:=(by simp;omega))
       | (obtain rfl:i=n:=by omega)
      clear hgo
      obtain⟨xi,hxi⟩:∃xi,xi=a % X.length:=⟨_,rfl⟩
      have hxl:xi < X.length:=by rw [hxi];exact jr _ hXp
      have hra:(a:Int) % (X.length:Int)=((xi:Nat):Int):=by rw [hxi];rfl
      have hn0:¬(X.length:Int)=0:=by omega
      clear hxi
      obtain⟨hd,hhd,hho,hcase⟩:=zI HT.out (i:=xi) (by rw [aY];exact hxl)
      obtain⟨gh,rfl,hghl,hgh⟩:=jk HA.out HHl.out _ _ hhd
      have g1:=(bF HA.out).cell 1
      simp only [fQ,fP] at g1
      have Hcase:=ae hcase
      have HHd:=ae hhd
      clear hcase hhd
      by_cases hx0:xi=0
      ·subst hx0
       go_wp2_with fail
       go_ret
       exact⟨rfl,HA.out.below⟩
      ·have hxz:decide ((xi:Int)=0)=false:=by simp;omega
       go_wp2_with fail
       refine(BV HA.out xi (by omega) ⟨by omega,by omega⟩).mono ?_
       rintro e w4 ⟨rfl,hw⟩
       rw [hw]
       clear hw
       rcases Hcase.out with ⟨mx,nx,hm,hnx,rfl⟩ | ⟨hm,rfl,hix⟩
       ·rw [hm]
        simp only [Option.isSome_some]
        have hs0:(S.at (σ xi)).isSome=true:=by rw [hnx];rfl
        have hσ0:σ xi≠0:=fun e=>by
         obtain⟨hz,m0,hm0⟩:=HT.out.tw.zero
         exact hx0 (HT.out.tw.inj xi 0 mx m0 hm hm0 (by rw [hz];exact e))
        have HS0:=ae hs0
        have HZ0:=ae hσ0
        clear hm hnx hs0 hσ0
        go_upto_region 11 with fail
        haveI hne:Nonempty (dS (YS g R Q gh xi (.slice (some ⟨gh,0,none⟩) X.length hvc) (S.hd (σ xi)))):=⟨⟨ws,YU HA.out hgh ws (ak _ _)⟩⟩
        have y0:=fun(x:dS (YS g R Q gh xi (.slice (some ⟨gh,0,none⟩) X.length hvc) (S.hd (σ xi))))=>x.h.bk.cell 0
        have y2:=fun(x:dS (YS g R Q gh xi (.slice (some ⟨gh,0,none⟩) X.length hvc) (S.hd (σ xi))))=>x.h.bk.cell 2
        have y3:=fun(x:dS (YS g R Q gh xi (.slice (some ⟨gh,0,none⟩) X.length hvc) (S.hd (σ xi))))=>x.h.hc
        simp only [fQ,fP] at y0 y2
        clear g1 g2 hgl
        refine qP (YS g R Q gh xi (.slice (some ⟨gh,0,none⟩) X.length hvc) (S.hd (σ xi))) (TF ws (YW w.heap.size w [] g R Q (.slice (some ⟨gh,0,none⟩) X.length hvc) (iZ S σ (ms X)) nv X S K d (σ xi))) (fun _ v=>∃h er,v=.tuple #[.int .i64 h,.int .i64 er]) 17 (by kernel_rfl) (by kernel_rfl) (Aj (YU HA.out hgh) (YX HHl.out HHd.out)) (kL YM) (ak _ _) ?_
        simp only [mD,mr,l9,lZ]
        repeat (first
         | (refine RV.aN (by rfl) (by rfl) (fun K hK=>?_);go_big_quiet_step (fail);refine az ?_;refine hK.out _ ?_;clear hK K)
         | (refine RV.aK (by rfl) ?_;simp only [Act.put,dL,dK,dJ]))
        refine RV.dM (by rfl) (by rfl) (fun w=>by go_simp;exact⟨rfl,rfl⟩) (⟨_,0,0,rfl⟩) (fun X wx hx=>?_) (fun v hv=>?_)
        ·have hx2:Below ws.heap.size ws wx:=hx
         refine(Yv (jF (HA.out.still hx2)) HT.out.ok (σ xi) HS0.out HZ0.out (by omega)).mono ?_
         rintro e wy ⟨S',sv',fv',K',d',r,rfl,hC,hTo⟩
         exact⟨_,rfl,⟨_,_,rfl⟩,S',sv',fv',K',d',r,rfl,hC,hTo.all (HA.out.still hx2)⟩
        obtain⟨h1',e1',rfl⟩:=hv
        simp only [Act.put,dL,dK,dJ]
        repeat (first
         | (refine RV.aN (by rfl) (by rfl) (fun K hK=>?_);go_big_quiet_step (fail);refine az ?_;refine hK.out _ ?_;clear hK K)
         | (refine RV.aK (by rfl) ?_;simp only [Act.put,dL,dK,dJ]))
        refine RV.eH ?_
        rintro w4 ⟨S1,sv1,fv1,K1,d1,r1,e1,hC1,hA4⟩
        obtain⟨rfl,rfl⟩:h1'=S.hd (r1 (σ xi))∧e1'=0:=by simpa using e1
        obtain⟨hT1,hi1,hp0⟩:=YT HT.out.ok HS0.out HZ0.out hC1
        have hsl1:=YE HT.out.ok.lk HS0.out hC1
        have HC1:=ae hC1
        have HA4:=ae hA4
        have HT1:=ae hT1
        have HI1:=ae hi1
        have HP0:=ae hp0
        have g0:=(bF hA4).cell 0
        simp only [fQ,fP] at g0
        clear y0 y2 y3 hne e1 hC1 hA4 hT1 hi1 hp0
        rw [← HC1.out.hd (r1 (σ xi))]
        go_wp2_with fail
        refine(Yv (jF HA4.out) HT1.out (r1 (σ xi)) HI1.out HP0.out (by omega)).mono ?_
        rintro e w5 ⟨S2,sv2,fv2,K2,d2,r2,rfl,hC2,hTo2⟩
        have hA5:=hTo2.all HA4.out
        have hsl2:=YE HT1.out.lk HI1.out hC2
        obtain⟨E,hTE,hEp,hEq,hEl,hs1,hs2,⟨na,hna⟩,⟨np,hnp,hpar⟩,⟨nq,hnq⟩,hcb⟩:=YQ HT.out HS0.out HZ0.out HC1.out hC2
        have hda:S.hd (σ xi)=S2.hd (σ xi):=by rw [hC2.hd,HC1.out.hd]
        have hHs2:iZ S2 σ (ms X)=iZ S σ (ms X):=YP (by rw [hC2.eb,HC1.out.eb]) (by rw [hC2.es,HC1.out.es])
        rw [← hHs2] at hA5
        rw [← hC2.hd (r1 (σ xi)),← hC2.hd (r2 (r1 (σ xi)))]
        rw [hda] at hgh
        obtain⟨p,hp⟩:∃p,p=r1 (σ xi):=⟨_,rfl⟩
        rw [← hp] at hEp hEq hs1 hs2 hnp hnq hcb ⊢
        obtain⟨q,hq⟩:∃q,q=r2 p:=⟨_,rfl⟩
        rw [← hq] at hEq hs2 hnq ⊢
        have hnd5:=HHd.out
        rw [← hHs2,hda] at hnd5
        obtain⟨gs,caps,rfl⟩:=fO (jF hA5) (by have:=iy hna;omega)
        have hla:∀x m,S2.at x=some m→m.attrs.length≤1000:=fun x m hx=>by have:=(hTE.ok.nd x m hx).al;omega
        have hlp:=hla _ _ hnp
        obtain⟨gh',e2,hghl5,hgh5⟩:=jk hA5 (by rw [hHs2];exact HHl.out) _ _ hnd5
        cases e2
        have HE:=ae (show CX False E (i+0) S2.slots.length S2 K2 d2 (ms X) σ from hTE)
        have HA5:=ae hA5
        have HEp:=ae hEp
        have HEq:=ae hEq
        have HEl:=ae hEl
        have Hs1:=ae hs1
        have Hs2:=ae hs2
        have Hna:=ae hna
        have Hnp:=ae hnp
        have Hpar:=ae hpar
        have Hnq:=ae hnq
        have Hcb:=ae hcb
        have HLa:=ae hla
        have Hgh:=ae hgh5
        have g0:=(bF hA5).cell 0
        simp only [fQ,fP] at g0
        clear hTE hA5 hEp hEq hEl hs1 hs2 hna hnp hpar hnq hcb hla hgh hgh5 hC2 hTo2 hHs2 hnd5 hp hq hda HC1 HHd hghl
        go_wp2_with fail
        refine(wM (jF HA5.out) (S2.hd p) (hd_ok HE.out.ok.lk Hnp.out).1 (fV HE.out.ok.lk Hnp.out) (dN Hnp.out) hlp).mono ?_
        rintro e w6 ⟨v',rfl,ho,hb⟩
        have HA6:=ae (HA5.out.still hb)
        have HG6:=ae (aU hb Hgh.out)
        obtain⟨va,vc,rfl⟩:=bP ho
        clear hb ho g0
        simp only [jd,dA]
        go_upto_region 14 with fail
        have k7:=dD.new w6 (jd { np with av:=.slice va np.attrs.length vc }) 62
        have hb7:=(ak w6.heap.size w6).alloc (au _) (.cells (jd { np with av:=.slice va np.attrs.length vc }).toArray 62)
        simp only [jd,dA] at k7 hb7
        generalize w6.alloc (.cells #[.int .i64 np.kind,.string ⟨np.name.toArray⟩,.slice va np.attrs.length vc,.string ⟨np.data.toArray⟩,.int .i64 np.parent,.int .i64 np.first,.int .i64 np.last,.int .i64 np.prev,.int .i64 np.next] 62)=w7 at *
        have HA7:=ae (HA6.out.still hb7)
        have HG7:=ae (aU hb7 HG6.out)
        have hne:=gI w7
        have y0:=fun(x:dS (jc w7))=>(bF (HA7.out.still x.h)).cell 0
        have y2:=fun(x:dS (jc w7))=>(bF (HA7.out.still x.h)).cell 2
        have y3:=fun(x:dS (jc w7))=>aU x.h HG7.out
        have y4:=fun(x:dS (jc w7))=>(k7.below x.h).cell 4
        simp only [fQ,fP,Hpar.out] at y0 y2 y4
        clear k7 hb7 hghl5 HG6
        refine mW (fun _ _=>True) (fun k v=>v=.bool k.isEmpty) 46 (by kernel_rfl) (by kernel_rfl) (fun _ _ _ _ _=>trivial) trivial ?_
        simp only [mD,mr,l9,lZ]
        repeat (first
         | (refine RV.aN (by rfl) (by rfl) (fun K hK=>?_);go_big_quiet_step (fail);refine az ?_;refine hK.out _ ?_;clear hK K)
         | (refine RV.aK (by rfl) ?_;simp only [Act.put,dL,dK,dJ]))
        refine RV.dM (by rfl) (by rfl) (fun w=>by go_simp;exact⟨rfl,rfl⟩) (⟨_,rfl⟩) (fun X wx hx=>?_) (fun v hv=>?_)
        ·have hx1:Below w7.heap.size w7 wx:=hx.1
         have t1:=jF (HA7.out.still hx1)
         refine(YD HE.out.ok.lk HE.out.ok.lk HLa.out HLa.out _ wx t1 t1 (σ xi) p _ _ Hna.out Hnp.out rfl).mono ?_
         rintro e wy ⟨rfl,hb⟩
         exact⟨_,rfl,by rw [Hs1.out];rfl,aV hx1 hb,trivial⟩
        obtain rfl:v=.bool true:=hv
        simp only [Act.put,dL,dK,dJ]
        repeat (first
         | (refine RV.aN (by rfl) (by rfl) (fun K hK=>?_);go_big_quiet_step (fail);refine az ?_;refine hK.out _ ?_;clear hK K)
         | (refine RV.aK (by rfl) ?_;simp only [Act.put,dL,dK,dJ]))
        refine RV.dM (by rfl) (by rfl) (fun w=>by go_simp;exact⟨rfl,rfl⟩) (⟨_,rfl⟩) (fun X wx hx=>?_) (fun v hv=>?_)
        ·have hx1:Below w7.heap.size w7 wx:=hx.1
         refine(Ij (jF (HA7.out.still hx1)) HE.out.ok.lk (σ xi) p _ _ Hna.out Hnp.out).mono ?_
         rintro e wy ⟨rfl,hb⟩
         exact⟨_,rfl,by rw [Hcb.out];rfl,aV hx1 hb,trivial⟩
        obtain rfl:v=.bool false:=hv
        simp only [Act.put,dL,dK,dJ]
        repeat (first
         | (refine RV.aN (by rfl) (by rfl) (fun K hK=>?_);go_big_quiet_step (fail);refine az ?_;refine hK.out _ ?_;clear hK K)
         | (refine RV.aK (by rfl) ?_;simp only [Act.put,dL,dK,dJ]))
        refine RV.eH ?_
        intro w9 hb9 _
        have HA9:=ae (HA7.out.still hb9)
        have HR2:=ae (show YZ w g R Q n2 i S2.slots.length S2 K2 E (.int .i64 0) w9 from⟨0,aZ _,rfl,_,_,_,_,S2,K2,d2,X,σ,HA9.out,HE.out,rfl,rfl,fun _ _=>⟨rfl,rfl⟩⟩)
        clear y0 y2 y3 y4 hne hb9
        go_wp2_with fail
        go_loopw [16] (fun iv wr=>YZ w g R Q n2 i S2.slots.length S2 K2 E iv wr) (fun iv _=>n2 - iW iv)
        case atStart=>exact HR2.out
        case round =>
         obtain⟨j,hj,rfl,hv',sv',fv',nv',S',K',d',X',σ',hA,hT,hb',hs',hE'⟩:=hrel
         obtain⟨wq,rfl⟩:∃q,q=wr:=⟨wr,rfl⟩
         have HAq:=ae hA
         have HTq:=ae hT
         have HEk:=ae hE'
         have Hb:=ae hb'
         have Hs:=ae hs'
         have hHlq:(iZ S' σ' (ms X')).length=X'.length:=by rw [jJ,aY]
         obtain⟨hvq,hcq,hvv⟩:=aW (lL hA)
         rw [hHlq] at hvv
         subst hvv
         have g2:=(bF hA).cell 2
         simp only [fQ,fP] at g2
         have hgl:=(bF hA).lt
         clear hA hT hb' hs' hE' hHlq
         by_cases hgo:j < n2∧X'.length < 250
         ·obtain⟨hin,hx3⟩:=hgo
          have hii:(j:Int) < (n2:Int):=by omega
          have hxx:decide ((X'.length:Int) < 250)=true:=by simp;omega
          obtain⟨b,off,rfl,hbl,hc⟩:=(HP2.out.below HAq.out.below) (by omega)
          obtain⟨p0,p1,p2,p3,p4,p5,p6,p7⟩:=hc j hin
          clear hc
          have hk255:=(HF2.out j).k
          by_cases hk8:(f2 j).k % 10=8
          ·have hrk:((f2 j).k:Int) % 10=8:=by omega
           clear hk8
           go_wp2_with fail
           go_roundw
           case rel=>exact⟨j+1,by omega,by go_num,_,_,_,_,_,_,_,_,_,HAq.out,HTq.out.mono (by omega),Hb.out,Hs.out,HEk.out⟩
           case measure=>simp [iW];omega
          ·have hrk:decide (((f2 j).k:Int) % 10=8)=false:=by simp;omega
           have hrq:¬((f2 j).k:Int) % 10=8:=by omega
           have hrs:(((f2 j).k:Int) % 10 == 8)=false:=by simp;omega
           clear hk8
           go_wp2_with fail
           refine(UG (HL.out.below HAq.out.below) HAq.out HTq.out (by omega) (by omega) (fun h=>h.elim) (by omega) (f2 j) ((HF2.out j).ok (HS2.out j hin)) (fun y hy=>by rw [(HEk.out y hy).1];exact HEl.out y hy)).mono ?_
           rintro e w11 ⟨v,ok,S'',K'',d'',X'',σ'',hv'',sv'',fv'',nv'',ts,rs,dl,rfl,hA11,hT11,hex,hb11,hs11,hE11,_⟩
           have HA11:=ae hA11.tail
           have HT11:=ae hT11
           have HB11:=ae hb11
           have HS11:=ae hs11
           have HE11:=ae hE11
           clear hA11 hT11 hex hb11 hs11 hE11 p0 p1 p2 p3 p4 p5 p6 p7 g2 hgl
           go_wp2_with fail
           go_roundw
           case rel=>exact⟨j+1,by omega,by go_num,_,_,_,_,_,_,_,_,_,HA11.out,HT11.out,HB11.out.trans Hb.out,HS11.out.trans Hs.out,fun y hy=>⟨((HE11.out y hy).1).trans (HEk.out y hy).1,(HE11.out y hy).2.trans (HEk.out y hy).2⟩⟩
           case measure=>simp [iW];omega
         ·rcases(show n2≤j∨(j < n2∧250≤X'.length) by omega) with h4 | ⟨h4,h5⟩
          all_goals
           first
            | (have h6:=h5;have hjj:(j:Int) < (n2:Int):=(by omega);have hxq:decide ((X'.length:Int) < 250)=false:=(by simp;omega))
            | (obtain rfl:j=n2:=by omega)
           clear hgo
           have hep:S2.hd p=S'.hd p:=by unfold Tr.hd;rw [Hb.out,Hs.out]
           have heq:S2.hd q=S'.hd q:=by unfold Tr.hd;rw [Hb.out,Hs.out]
           rw [hep,heq]
           clear hep heq
           go_upto_region 21 with fail
           have hne:=gI wq
           have y0:=fun(x:dS (jc wq))=>(bF (HAq.out.still x.h)).cell 0
           simp only [fQ,fP] at y0
           clear g2 hgl
           refine mW (fun _ _=>True) (fun _ v=>v=.bool true) 12 (by kernel_rfl) (by kernel_rfl) (fun _ _ _ _ _=>trivial) trivial ?_
           simp only [mD,mr,l9,lZ]
           repeat (first
            | (refine RV.aN (by rfl) (by rfl) (fun K hK=>?_);go_big_quiet_step (fail);refine az ?_;refine hK.out _ ?_;clear hK K)
            | (refine RV.aK (by rfl) ?_;simp only [Act.put,dL,dK,dJ]))
           refine RV.dM (by rfl) (by rfl) (fun w=>by go_simp;exact⟨rfl,rfl⟩) (⟨_,rfl⟩) (fun X wx hx=>?_) (fun v hv=>?_)
           ·have hx1:Below wq.heap.size wq wx:=hx.1
            have t1:=jF (HAq.out.still hx1)
            have hlq:∀x m,S'.at x=some m→m.attrs.length≤1000:=fun x m hx=>by have:=(HTq.out.ok.nd x m hx).al;omega
            refine(YD HTq.out.ok.lk HTq.out.ok.lk hlq hlq _ wx t1 t1 p q np nq (by rw [(HEk.out p HEp.out).1];exact Hnp.out) (by rw [(HEk.out q HEq.out).1];exact Hnq.out) rfl).mono ?_
            rintro e wy ⟨rfl,hb⟩
            exact⟨_,rfl,by rw [Yw E HEk.out (fun y hy k hk=>(HE.out.cl y k hk).1 hy) _ p q HEp.out HEq.out,Hs2.out],aV hx1 hb,trivial⟩
           obtain rfl:v=.bool true:=hv
           simp only [Act.put,dL,dK,dJ]
           repeat (first
            | (refine RV.aN (by rfl) (by rfl) (fun K hK=>?_);go_big_quiet_step (fail);refine az ?_;refine hK.out _ ?_;clear hK K)
            | (refine RV.aK (by rfl) ?_;simp only [Act.put,dL,dK,dJ]))
           refine RV.eH ?_
           intro w12 hb12 _
           have HB12:=ae (HAq.out.still hb12).below
           clear y0 hne hb12
           go_wp2_with fail
           go_ret
           exact⟨rfl,HB12.out⟩
       ·rw [hm]
        simp only [Option.isSome_none]
        go_wp2_with fail
        go_ret
        exact⟨rfl,HA.out.below⟩
end Go.Proofs.YtfelmdkeaacfeaaGreatDoor.W
end
