/- Texts joined: LwU. -/
import Derived.Test.YtfelmdkeaacfeaaGreatDoorTU2
set_option maxRecDepth 100000
set_option maxHeartbeats 40000000
set_option linter.unusedVariables false
set_option linter.unusedSimpArgs false
section
namespace Go.Proofs.YtfelmdkeaacfeaaGreatDoor.W
open Go.RowKit
def Zx (w:World)(lb:List Ob)(g g2:Nat)(i:Nat)(wr:World):Prop :=
 ∃R Q hv sv fv nv S K d X σ R2 Q2 hv2 sv2 fv2 nv2 S2 K2 d2 X2 σ2,All w.heap.size w (kK g R Q hv (iZ S σ (ms X)) S sv fv nv X ++ (kK g2 R2 Q2 hv2 (iZ S2 σ2 (ms X2)) S2 sv2 fv2 nv2 X2 ++ lb)) wr ∧
  CX True (fun _=>False) i 0 S K d (ms X) σ∧CX True (fun _=>False) i 0 S2 K2 d2 (ms X2) σ2∧ms X2=ms X∧YB S S2 (ms X) σ σ2∧X.length≤600
def Zw (w:World)(lb:List Ob)(g g2 n:Nat)(iv:Value)(wr:World):Prop:=∃i:Nat,i≤n∧iv=.int .i64 (i:Int)∧Zx w lb g g2 i wr
def Zu (w:World)(l:List Ob)(g R Q c1:Nat)(hv nv:Value)(Hs:List Int)(X:List MX)(b s:Int)(M0:List MN)(σ : Nat→Nat)(rs:List Rc)(iv:Value)(wr:World):Prop :=
 ∃k:Nat,k≤rs.length∧iv=.int .i64 ((k:Int) - 1)∧∃S sv fv K d Mg c,All w.heap.size w (kK g R Q hv Hs S sv fv nv X ++ l) wr∧iP c S K d∧Tw True (fun _=>False) c S K Mg σ∧Bk M0 (rs.take k) Mg∧S.b=b∧S.s=s∧c1≤c∧c+2*k≤c1+2*rs.length
theorem YK (b s:Int):YB (AA b s) (AA b s) [kD 1 [] [] []] (fun _=>0) (fun _=>0):=⟨rfl,rfl,rfl,fun _ _ _=>rfl⟩
theorem Za (b:Bool)(x y:Nat):b=false∨(b=true∧40 < x)∨(b=true∧x≤40∧40 < y)∨(b=true∧x≤40∧y≤40):=by
 cases b with
 | false=>exact .inl rfl
 | true =>
  by_cases h:40 < x
  ·exact .inr (.inl ⟨rfl,h⟩)
  ·by_cases h2:40 < y
   ·exact .inr (.inr (.inl ⟨rfl,by omega,h2⟩))
   ·exact .inr (.inr (.inr ⟨rfl,by omega,by omega⟩))
theorem Y3 {S S':Tr}(hb:S'.b=S.b)(hs:S'.s=S.s)(σ : Nat→Nat)(r:Rc):vC S σ r=vC S' σ r:=by
 have:∀v,hM S σ v=hM S' σ v:=fun v=>by unfold hM Tr.hd;rw [hb,hs]
 unfold vC;rw [this,this,this,this]
theorem YW (k:Nat)(h:k≤255):3≤(3+k % 5) % 10∧(3+k % 5) % 10≤7:=by omega
theorem YC {w:World}(hL:Laid w)(A:Option Addr)(n c:Nat)(f:Nat→ou)(hP:UW w A n f)(hn:n≤9223372036854775807)(hf:∀j,(f j).In)(o:ou)(ho:o.In) :
  Calls Tryz.prog 4 #[.slice A n c,.agg (opC o).toArray] w fun e w'=>e=.returned (.bool true)∧Below w.heap.size w w':=by
 have HL:=ae hL
 have HP:=ae hP
 have HF:=ae hf
 have HO:=ae ho
 have hk255:=ho.k
 clear hL hP hf ho
 obtain⟨ok,oa,ob,oc,os,ot,on,okk⟩:=o
 simp only at hk255
 simp only [opC]
 have hA0:=(All.start w).sO [.int .u8 ok,.int .u8 oa,.int .u8 ob,.int .u8 oc,.string ⟨os.toArray⟩,.string ⟨ot.toArray⟩,.int .i8 on,.int .i8 okk] 39
 have HA0:=ae hA0
 clear hA0
 go_enter Tryz.func4,Tryz.ntmps4
 go_wp2_with fail
 refine(Gn _).mono ?_
 rintro e w1 ⟨rfl,hb1⟩
 have HA1:=ae (HA0.out.still hb1)
 clear hb1 HA0
 go_wp2_with fail
 refine(Ph A n c f (HP.out.below HA1.out.below) hn).mono ?_
 rintro e w2 ⟨b,rfl,hfew,hw⟩
 rw [hw]
 clear hw
 have kb:=HA1.out.head
 have k4:=kb.cell 4
 have k5:=kb.cell 5
 simp only [fQ,fP] at k4 k5
 rcases(show b=false∨(b=true∧40 < os.length)∨(b=true∧os.length≤40∧40 < ot.length)∨(b=true∧os.length≤40∧ot.length≤40) from Za b os.length ot.length) with hc | hc | hc | hc
 case inl =>
  subst hc
  clear kb k4 k5
  go_wp2_with fail
  refine(Gn w1).mono ?_
  rintro e w3 ⟨rfl,hb3⟩
  have HB3:=ae (aV HA1.out.below hb3)
  clear hb3
  go_wp2_with fail
  go_ret
  exact⟨rfl,HB3.out⟩
 case inr.inl =>
  obtain⟨rfl,h40⟩:=hc
  have d1:decide ((40:Int) < (os.length:Int))=true:=by simp;omega
  go_wp2_with fail
  refine(Gn w1).mono ?_
  rintro e w3 ⟨rfl,hb3⟩
  have HB3:=ae (aV HA1.out.below hb3)
  clear hb3
  go_wp2_with fail
  go_ret
  exact⟨rfl,HB3.out⟩
 case inr.inr.inl =>
  obtain⟨rfl,h40,h41⟩:=hc
  have d1:decide ((40:Int) < (os.length:Int))=false:=by simp;omega
  have d2:decide ((40:Int) < (ot.length:Int))=true:=by simp;omega
  go_wp2_with fail
  refine(Gn w1).mono ?_
  rintro e w3 ⟨rfl,hb3⟩
  have HB3:=ae (aV HA1.out.below hb3)
  clear hb3
  go_wp2_with fail
  go_ret
  exact⟨rfl,HB3.out⟩
 case inr.inr.inr =>
  obtain⟨rfl,h40,h41⟩:=hc
  have d1:decide ((40:Int) < (os.length:Int))=false:=by simp;omega
  have d2:decide ((40:Int) < (ot.length:Int))=false:=by simp;omega
  obtain⟨hn60,hstr⟩:=hfew rfl
  have HS:=ae hstr
  clear hfew hstr kb
  go_wp2_with fail
  refine(NL HA1.out 0 0).mono ?_
  rintro e w3 ⟨g,R,Q,hv,sv,nv,X,rfl,hms,hA⟩
  have HA3:=ae hA
  clear hA k4 k5 d1 d2
  go_wp2_with fail
  refine(NL HA3.out 0 0).mono ?_
  rintro e w4 ⟨g2,R2,Q2,hv2,sv2,nv2,X2,rfl,hms2,hA⟩
  obtain⟨lb,hlb⟩:∃lb,lb=[bk w.heap.size [.int .u8 ok,.int .u8 oa,.int .u8 ob,.int .u8 oc,.string ⟨os.toArray⟩,.string ⟨ot.toArray⟩,.int .i8 on,.int .i8 okk] 39]:=⟨_,rfl⟩
  rw [← hlb] at hA
  have Hlb:=ae hlb
  have hA4:All w.heap.size w (kK g R Q hv (iZ (AA 0 0) (fun _=>0) (ms X)) (AA 0 0) sv (.slice none 0 0) nv X ++ (kK g2 R2 Q2 hv2 (iZ (AA 0 0) (fun _=>0) (ms X2)) (AA 0 0) sv2 (.slice none 0 0) nv2 X2 ++ lb)) w4:=hA.perm (by
   rw [← bu,← bu]
   exact dY _ lQ)
  have hX1:X.length=1:=by have:=bW List.length hms;rw [aY] at this;exact this
  have HR:=ae (show Zw w lb g g2 n (.int .i64 0) w4 from⟨0,aZ _,rfl,R,Q,hv,sv,_,nv,_,_,_,X,_,R2,Q2,hv2,sv2,_,nv2,_,_,_,X2,_,hA4,hms ▸ NI 0 0,hms2 ▸ NI 0 0,by rw [hms,hms2],hms ▸ YK 0 0,by omega⟩)
  clear hA hA4 hms hms2 HA3 hlb hX1
  go_wp2_with fail
  go_loopw [7] (fun iv wr=>Zw w lb g g2 n iv wr) (fun iv _=>n - iW iv)
  case atStart=>exact HR.out
  case round =>
   obtain⟨i,hi,rfl,R,Q,hv,sv,fv,nv,S,K,d,X,σ,R2,Q2,hv2,sv2,fv2,nv2,S2,K2,d2,X2,σ2,hA,hT,hT2,hXX,hSm,hX6⟩:=hrel
   obtain⟨ws,rfl⟩:∃q,q=wr:=⟨wr,rfl⟩
   have HA:=ae hA
   have HT:=ae hT
   have HT2:=ae hT2
   have HXX:=ae hXX
   have HSm:=ae hSm
   have hlX:X2.length=X.length:=by have:=bW List.length hXX;rw [aY,aY] at this;exact this
   have hHl:(iZ S σ (ms X)).length=X.length:=by rw [jJ,aY]
   have hHl2:(iZ S2 σ2 (ms X2)).length=X.length:=by rw [jJ,aY,hlX]
   have hA2:All w.heap.size w (kK g2 R2 Q2 hv2 (iZ S2 σ2 (ms X2)) S2 sv2 fv2 nv2 X2 ++ (kK g R Q hv (iZ S σ (ms X)) S sv fv nv X ++ lb)) ws:=hA.perm (by
    rw [← bu,← bu]
    exact dY _ lQ)
   have HA2:=ae hA2
   obtain⟨hva,hvc,hvv⟩:=aW (lL hA)
   rw [hHl] at hvv
   subst hvv
   obtain⟨hva2,hvc2,hvv⟩:=aW (lL hA2)
   rw [hHl2] at hvv
   subst hvv
   have g2c:=(bF hA).cell 2
   simp only [fQ,fP] at g2c
   have hgl:=(bF hA).lt
   have HHl:=ae hHl
   have HHl2:=ae hHl2
   have hXs:=hT.tw.few
   rw [aY] at hXs
   clear hA hA2 hT hT2 hHl hHl2 hXX hSm
   by_cases hgo:i < n∧X.length < 300
   ·obtain⟨hin,hx3⟩:=hgo
    have hii:(i:Int) < (n:Int):=by omega
    have hxx:decide ((X.length:Int) < 300)=true:=by simp;omega
    obtain⟨b,off,rfl,hbl,hc⟩:=(HP.out.below HA.out.below) (by omega)
    obtain⟨p0,p1,p2,p3,p4,p5,p6,p7⟩:=hc i hin
    clear hc
    go_wp2_with fail
    refine(UG (HL.out.below HA.out.below) HA.out HT.out (by omega) (by omega) (fun _=>by omega) (by omega) (f i) ((HF.out i).ok (HS.out i hin)) (fun y h=>h.elim)).mono ?_
    rintro e w5 ⟨v,ok',S',K',d',X',σ',hv',sv',fv',nv',ts,rs,dl,rfl,hA5,hT5,hex,hb5,hs5,_,hst,hfl5,hdr5⟩
    have hl5:=hst.len (N:=S.slots.length) (fun f j m hj=>HT.out.tw.oz HT.out.ok.lk f hj) (by
     obtain⟨n,hn,_⟩:=HT.out.ok.doc
     have:=iy hn
     omega)
    rw [aY,aY] at hl5
    have hSs:=HT.out.lim
    rw [aY] at hSs
    have hA5':All w.heap.size w (kK g2 R2 Q2 (.slice hva2 X.length hvc2) (iZ S2 σ2 (ms X2)) S2 sv2 fv2 nv2 X2 ++ (kK g R Q hv' (iZ S' σ' (ms X')) S' sv' fv' nv' X' ++ lb)) w5:=hA5.tail.perm (by
     rw [← bu,← bu]
     exact dY _ lQ)
    have HA5:=ae hA5'
    have HT5:=ae hT5
    have HSt:=ae hst
    have HFl:=ae hfl5
    have HDr:=ae hdr5
    have Hb5:=ae hb5
    have Hs5:=ae hs5
    clear hA5 hA5' hT5 hex p0 p1 p2 p3 p4 p5 p6 p7 g2c hgl hst hbl hfl5 hdr5 hb5 hs5
    obtain⟨b',off',eb,hbl,hc⟩:=(HP.out.below HA5.out.below) (by omega)
    cases eb
    obtain⟨p0,p1,p2,p3,p4,p5,p6,p7⟩:=hc i hin
    clear hc
    go_wp2_with fail
    refine(UG (HL.out.below HA5.out.below) HA5.out HT2.out (by omega) (by omega) (fun _=>by omega) (by omega) (f i) ((HF.out i).ok (HS.out i hin)) (fun y h=>h.elim)).mono ?_
    rintro e w7 ⟨v2,ok2,S2',K2',d2',X2',σ2',hv2',sv2',fv2',nv2',ts2,rs2,dl2,rfl,hA7,hT7,hex,hb7,hs7,_,hst2,hfl7,hdr7⟩
    obtain⟨hM,hR⟩:=HSt.out.fn (HT.out.tw.mw HT.out.ok.lk) (HXX.out ▸ HT2.out.tw.mw HT2.out.ok.lk) (HXX.out ▸ hst2)
    have hSm7:YB S' S2' (ms X') σ' σ2':=HSm.out.step (HT.out.tw.mw HT.out.ok.lk) (HXX.out ▸ HT2.out.tw.mw HT2.out.ok.lk) HSt.out HFl.out (by rw [HXX.out,← hM] at hfl7;exact hfl7) HDr.out (by rw [HXX.out] at hdr7;exact hdr7) Hb5.out Hs5.out hb7 hs7
    have hA8:All w.heap.size w (kK g R Q hv' (iZ S' σ' (ms X')) S' sv' fv' nv' X' ++ (kK g2 R2 Q2 hv2' (iZ S2' σ2' (ms X2')) S2' sv2' fv2' nv2' X2' ++ lb)) w7:=hA7.tail.perm (by
     rw [← bu,← bu]
     exact dY _ lQ)
    have HA8:=ae hA8
    have HT7:=ae hT7
    have HM:=ae hM
    have HSm7:=ae hSm7
    clear hA7 hA8 hT7 hex p0 p1 p2 p3 p4 p5 p6 p7 hst2 hM hR hfl7 hdr7 hSm7 hb7 hs7
    go_wp2_with fail
    go_roundw
    case rel=>exact⟨i+1,by omega,by go_num,_,_,_,_,_,_,_,_,_,_,_,_,_,_,_,_,_,_,_,_,_,_,HA8.out,HT5.out,HT7.out,HM.out.symm,HSm7.out,by omega⟩
    case measure=>simp [iW];omega
   ·rcases(show n≤i∨(i < n∧300≤X.length) by omega) with h1 | ⟨h1,h2⟩
    all_goals
     first
      | (have h3:=h2;have hii:(i:Int) < (n:Int):=(by omega);have hxx:decide ((X.length:Int) < 300)=false:=(by simp;omega))
      | (obtain rfl:i=n:=by omega)
     clear hgo
     have kb:dD ws w.heap.size [.int .u8 ok,.int .u8 oa,.int .u8 ob,.int .u8 oc,.string ⟨os.toArray⟩,.string ⟨ot.toArray⟩,.int .i8 on,.int .i8 okk] 39:=HA.out.P (bk w.heap.size _ _) (by rw [Hlb.out];simp)
     have q0:=kb.cell 0
     have q1:=kb.cell 1
     have q2:=kb.cell 2
     have q3:=kb.cell 3
     have q4:=kb.cell 4
     have q5:=kb.cell 5
     have q6:=kb.cell 6
     have q7:=kb.cell 7
     simp only [fQ,fP] at q0 q1 q2 q3 q4 q5 q6 q7
     have qf:=kb.free
     have ql:=kb.lt
     clear kb
     go_upto_region 10 with fail
     obtain⟨kk,hkk⟩:∃kk:Nat,kk=3+ok % 5:=⟨_,rfl⟩
     have hki:(3+(ok:Int) % 5)=(kk:Int):=by rw [hkk];omega
     rw [hki]
     have hA9:All w.heap.size w (kK g R Q (.slice hva X.length hvc) (iZ S σ (ms X)) S sv fv nv X ++ (kK g2 R2 Q2 (.slice hva2 X.length hvc2) (iZ S2 σ2 (ms X2)) S2 sv2 fv2 nv2 X2 ++ [bk w.heap.size [.int .u8 kk,.int .u8 oa,.int .u8 ob,.int .u8 oc,.string ⟨os.toArray⟩,.string ⟨ot.toArray⟩,.int .i8 on,.int .i8 okk] 39])) (ws.setCell ⟨w.heap.size,0,none⟩ (.int .u8 (kk:Int))):=by
      have h1:=HA.out
      rw [Hlb.out,← bu] at h1
      have h2:=All.U4 _ h1 0 (.int .u8 (kk:Int))
      rw [bu] at h2
      exact h2
     have hb9:w.heap.size≤(ws.setCell ⟨w.heap.size,0,none⟩ (.int .u8 (kk:Int))).heap.size:=hA9.below.size
     clear q0 q1 q2 q3 q4 q5 q6 q7 qf ql g2c hgl
     generalize ws.setCell ⟨w.heap.size,0,none⟩ (.int .u8 (kk:Int))=w9 at *
     have HA9:=ae hA9
     have kb:dD w9 w.heap.size [.int .u8 kk,.int .u8 oa,.int .u8 ob,.int .u8 oc,.string ⟨os.toArray⟩,.string ⟨ot.toArray⟩,.int .i8 on,.int .i8 okk] 39:=hA9.P (bk w.heap.size _ _) (by simp)
     have q0:=kb.cell 0
     have q1:=kb.cell 1
     have q2:=kb.cell 2
     have q3:=kb.cell 3
     have q4:=kb.cell 4
     have q5:=kb.cell 5
     have q6:=kb.cell 6
     have q7:=kb.cell 7
     simp only [fQ,fP] at q0 q1 q2 q3 q4 q5 q6 q7
     have ql:=kb.lt
     have HKk:=ae hkk
     clear kb hA9 hb9 hki hkk
     go_wp2_with fail
     refine(UG (HL.out.below HA9.out.below) HA9.out HT.out (by omega) (by omega) (fun _=>by omega) (by omega) ⟨kk,oa,ob,oc,os,ot,on,okk⟩ ⟨by rw [HKk.out];show 3+ok % 5≤255;omega,HO.out.a,HO.out.b,HO.out.c,h40,h41,HO.out.n,HO.out.kk⟩ (fun y h=>h.elim)).mono ?_
     rintro e w10 ⟨v,ok',S',K',d',X',σ',hv',sv',fv',nv',ts,rs,dl,rfl,hA10,hT10,hex,hb10,hs10,_,hst,hfl,_⟩
     obtain⟨_,hts⟩:=hex trivial
     have hk1:3≤kk % 10∧kk % 10≤7:=by rw [HKk.out];exact YW ok hk255
     obtain⟨hlen,hlive⟩:=YA hst hk1.1 hk1.2
     have hbk:=Zi (HT.out.tw.mw HT.out.ok.lk) hk1.1 hk1.2 hst
     have htwo:=YT hst
     have hσ':∀i m,lv (ms X') i=some m→σ i=σ' i:=fun i m hi=>by
      rw [hfl.1 i m hi]
      unfold yT
      rw [aC (by have:=kH ⟨m,hi⟩;omega)]
     have hW10:=hT10.tw.congr hσ'
     have htl:ts.length=rs.length:=by rw [hts,bM]
     have hA10':All w.heap.size w (kK g R Q hv' (iZ S' σ' (ms X')) S' sv' fv' nv' X' ++ (rl v ts :: (kK g2 R2 Q2 (.slice hva2 X.length hvc2) (iZ S2 σ2 (ms X2)) S2 sv2 fv2 nv2 X2 ++ [bk w.heap.size [.int .u8 kk,.int .u8 oa,.int .u8 ob,.int .u8 oc,.string ⟨os.toArray⟩,.string ⟨ot.toArray⟩,.int .i8 on,.int .i8 okk] 39]))) w10:=hA10.perm List.perm_middle.symm
     obtain⟨l2,hl2⟩:∃l2,l2=rl v ts :: (kK g2 R2 Q2 (.slice hva2 X.length hvc2) (iZ S2 σ2 (ms X2)) S2 sv2 fv2 nv2 X2 ++ [bk w.heap.size [.int .u8 kk,.int .u8 oa,.int .u8 ob,.int .u8 oc,.string ⟨os.toArray⟩,.string ⟨ot.toArray⟩,.int .i8 on,.int .i8 okk] 39]):=⟨_,rfl⟩
     rw [← hl2] at hA10'
     obtain⟨va,vc,hvs⟩:=aW (show Own w10 41 11 v ts.length (rows encR ts) from hA10.head)
     obtain⟨Hs,hHs⟩:∃Hs,Hs=iZ S' σ' (ms X'):=⟨_,rfl⟩
     rw [← hHs] at hA10'
     obtain⟨hva5,hvc5,hv5⟩:=aW (lL hA10')
     subst hv5
     have HL2:=ae hl2
     have HTs:=ae hts
     have HMW:=ae (HT.out.tw.mw HT.out.ok.lk)
     have HR2:=ae (show Zu w l2 g R Q (i+1) (.slice hva5 Hs.length hvc5) nv' Hs X' S'.b S'.s (ms X) σ rs (.int .i64 ((rs.length:Int) - 1)) w10 from⟨rs.length,au _,rfl,S',sv',fv',K',d',ms X',i+1,hA10',hT10.ok,hW10,by rw [dE];exact hbk,rfl,rfl,au _,au _⟩)
     have hsb:S'.b=S.b∧S'.s=S.s:=⟨hb10,hs10⟩
     have HSb:=ae hsb
     subst hvs
     clear hA10 hA10' hT10 hex hts hbk hW10 hst hfl hσ' hlive hl2 hHs hb10 hs10 hsb q0 q1 q2 q3 q4 q5 q6 q7 ql
     go_wp2_with fail
     go_loopw [10,11] (fun iv rv wr=>Zu w l2 g R Q (i+1) (.slice hva5 Hs.length hvc5) nv' Hs X' S'.b S'.s (ms X) σ rs iv wr) (fun iv _ _=>(intOf iv+1).toNat)
     case atStart=>exact HR2.out
     case round =>
      obtain⟨k,hk,rfl,S5,sv5,fv5,K5,d5,Mg,c5,hA5,hT5,hW5,hbk5,hb5,hs5,hc1,hc2⟩:=hrel
      obtain⟨wq,rfl⟩:∃q,q=wr:=⟨wr,rfl⟩
      have HA5:=ae hA5
      have HT5:=ae hT5
      have HW5:=ae hW5
      have HBk:=ae hbk5
      clear hA5 hT5 hW5 hbk5
      cases k with
      | zero =>
       have HLk:=ae (show Yp (ms X2) Mg from by rw [HXX.out];exact HBk.out.nil (List.take_zero ..))
       have hA6:All w.heap.size w (kK g R Q (.slice hva5 Hs.length hvc5) Hs S5 sv5 fv5 nv' X' ++ (kK g2 R2 Q2 (.slice hva2 X.length hvc2) (iZ S2 σ2 (ms X2)) S2 sv2 fv2 nv2 X2 ++ [])) wq:=HA5.out.sub (by
        rw [HL2.out]
        exact List.Sublist.append_left (List.Sublist.cons _ (List.Sublist.append_left (List.nil_sublist _) _)) _)
       have hA7:All w.heap.size w (kK g2 R2 Q2 (.slice hva2 X.length hvc2) (iZ S2 σ2 (ms X2)) S2 sv2 fv2 nv2 X2 ++ (kK g R Q (.slice hva5 Hs.length hvc5) Hs S5 sv5 fv5 nv' X' ++ [])) wq:=hA6.perm (by simpa using lQ)
       have HA6:=ae hA6
       have HA7:=ae hA7
       have HHb:=ae (hb5.trans HSb.out.1)
       have HHs:=ae (hs5.trans HSb.out.2)
       have hT2':CX True (fun _=>False) i 0 S2 K2 d2 (ms X) σ2:=HXX.out ▸ HT2.out
       have HT2':=ae hT2'
       clear hA6 hA7 hT2' hb5 hs5
       have hneg:¬(0:Int)≤((0:Nat):Int) - 1:=by omega
       go_wp2_with fail
       go_loopw [12] (fun iv wr=>WH wq X.length iv wr) (fun iv _=>X.length - iW iv)
       case atStart=>exact⟨0,aZ _,rfl,ak _ _⟩
       case round =>
        obtain⟨j,hj,rfl,hB⟩:=hrel
        obtain⟨wz,rfl⟩:∃q,q=wr:=⟨wr,rfl⟩
        have HB:=ae hB
        have HAz:=ae (HA6.out.still hB)
        have HAv:=ae (HA7.out.still hB)
        have g2d:=(bF HAv.out).cell 2
        simp only [fQ,fP] at g2d
        have hgl:=(bF HAv.out).lt
        clear hB
        by_cases hlt:j < X.length
        ·obtain⟨hd,hhd,hho,hcase⟩:=zI HT2'.out (i:=j) (by rw [aY];exact hlt)
         rw [← HXX.out] at hhd
         obtain⟨gh,rfl,hghl,hgh⟩:=jk HAv.out HHl2.out _ _ hhd
         have hai:(j:Int) < (X.length:Int):=by omega
         go_upto_region 29 with fail
         have hne:=gI wz
         have y0:=fun(x:dS (jc wz))=>(bF (HAz.out.still x.h)).cell 0
         have z0:=fun(x:dS (jc wz))=>(bF (HAv.out.still x.h)).cell 0
         have z1:=fun(x:dS (jc wz))=>(bF (HAv.out.still x.h)).cell 1
         have z2:=fun(x:dS (jc wz))=>(bF (HAv.out.still x.h)).cell 2
         have z3:=fun(x:dS (jc wz))=>aU x.h hgh
         simp only [fQ,fP] at y0 z0 z1 z2
         clear g2d hgl
         rcases hcase with ⟨m,n,hm,hn,rfl⟩ | ⟨hm,rfl,hix⟩
         ·have HM:=ae hm
          have HHas:=ae (fun wx (hb:Below wz.heap.size wz wx)=>(show Calls Tryz.prog 20 #[.pointer (some ⟨Q2,0,none⟩),.int .i64 (j:Int)] wx fun e w'=>e=.returned (.bool true)∧w'=wx from by
           have:=BV (HAv.out.still hb) j (by omega) ⟨by omega,by omega⟩
           rw [HXX.out,HM.out] at this
           exact this))
          obtain⟨n1,n2,a1,a2,a3,a4,a5,a6,a7,a8,a9,a10⟩:=Y1 HT2'.out HT5.out HW5.out (HXX.out ▸ HLk.out) HSm.out HHb.out HHs.out hm
          have HAlk:=ae (fun wx (hb:Below wz.heap.size wz wx)=>alike_any (jF (HAv.out.still hb)) (jF (HAz.out.still hb)) HT2'.out.ok.lk HT5.out.lk (σ2 j) (σ2 j) n1 n2 a1 a2 a3 a4 a5 a6 a7 a8 a9 a10)
          clear hm hn a1 a2 a3 a4 a5 a6 a7 a8 a9 a10
          refine mW (fun _ _=>True) (fun _ v=>v=.bool true) 25 (by kernel_rfl) (by kernel_rfl) (fun _ _ _ _ _=>trivial) trivial ?_
          simp only [mD,mr,l9,lZ]
          repeat (first
           | (refine RV.aN (by rfl) (by rfl) (fun K hK=>?_);go_big_quiet_step (fail);refine az ?_;refine hK.out _ ?_;clear hK K)
           | (refine RV.aK (by rfl) ?_;simp only [Act.put,dL,dK,dJ]))
          refine RV.dM (by rfl) (by rfl) (fun w=>by go_simp;exact⟨rfl,rfl⟩) (⟨_,rfl⟩) (fun X wx hx=>?_) (fun v hv=>?_)
          ·refine(HHas.out _ hx.1).mono ?_
           rintro e wy ⟨rfl,hw⟩
           exact⟨_,rfl,rfl,by rw [hw];exact hx.1,trivial⟩
          obtain rfl:v=.bool true:=hv
          simp only [Act.put,dL,dK,dJ]
          repeat (first
           | (refine RV.aN (by rfl) (by rfl) (fun K hK=>?_);go_big_quiet_step (fail);refine az ?_;refine hK.out _ ?_;clear hK K)
           | (refine RV.aK (by rfl) ?_;simp only [Act.put,dL,dK,dJ]))
          refine RV.dM (by rfl) (by rfl) (fun w=>by go_simp;exact⟨rfl,rfl⟩) (⟨_,rfl⟩) (fun X wx hx=>?_) (fun v hv=>?_)
          ·refine(HAlk.out _ hx.1).mono ?_
           rintro e wy ⟨rfl,hb⟩
           exact⟨_,rfl,rfl,aV hx.1 hb,trivial⟩
          obtain rfl:v=.bool true:=hv
          simp only [Act.put,dL,dK,dJ]
          repeat (first
           | (refine RV.aN (by rfl) (by rfl) (fun K hK=>?_);go_big_quiet_step (fail);refine az ?_;refine hK.out _ ?_;clear hK K)
           | (refine RV.aK (by rfl) ?_;simp only [Act.put,dL,dK,dJ]))
          refine RV.eH ?_
          intro w19 hb19 _
          have HB19:=ae (aV HB.out hb19)
          clear y0 z0 z1 z2 z3 hne hb19 hgh hghl
          go_wp2_with fail
          go_roundw
          case rel=>exact⟨j+1,by omega,by go_num,HB19.out⟩
          case measure=>simp [iW];omega
         ·have HM:=ae hm
          have HHas:=ae (fun wx (hb:Below wz.heap.size wz wx)=>(show Calls Tryz.prog 20 #[.pointer (some ⟨Q2,0,none⟩),.int .i64 (j:Int)] wx fun e w'=>e=.returned (.bool false)∧w'=wx from by
           have:=BV (HAv.out.still hb) j (by omega) ⟨by omega,by omega⟩
           rw [HXX.out,HM.out] at this
           exact this))
          clear hm
          refine mW (fun _ _=>True) (fun _ v=>v=.bool false) 25 (by kernel_rfl) (by kernel_rfl) (fun _ _ _ _ _=>trivial) trivial ?_
          simp only [mD,mr,l9,lZ]
          repeat (first
           | (refine RV.aN (by rfl) (by rfl) (fun K hK=>?_);go_big_quiet_step (fail);refine az ?_;refine hK.out _ ?_;clear hK K)
           | (refine RV.aK (by rfl) ?_;simp only [Act.put,dL,dK,dJ]))
          refine RV.dM (by rfl) (by rfl) (fun w=>by go_simp;exact⟨rfl,rfl⟩) (⟨_,rfl⟩) (fun X wx hx=>?_) (fun v hv=>?_)
          ·refine(HHas.out _ hx.1).mono ?_
           rintro e wy ⟨rfl,hw⟩
           exact⟨_,rfl,rfl,by rw [hw];exact hx.1,trivial⟩
          obtain rfl:v=.bool false:=hv
          simp only [Act.put,dL,dK,dJ]
          repeat (first
           | (refine RV.aN (by rfl) (by rfl) (fun K hK=>?_);go_big_quiet_step (fail);refine az ?_;refine hK.out _ ?_;clear hK K)
           | (refine RV.aK (by rfl) ?_;simp only [Act.put,dL,dK,dJ]))
          refine RV.eH ?_
          intro w19 hb19 _
          have HB19:=ae (aV HB.out hb19)
          clear y0 z0 z1 z2 z3 hne hb19 hgh hghl
          go_wp2_with fail
          go_roundw
          case rel=>exact⟨j+1,by omega,by go_num,HB19.out⟩
          case measure=>simp [iW];omega
        ·obtain rfl:j=X.length:=by omega
         go_wp2_with fail
         go_ret
         exact⟨rfl,HAz.out.below⟩
      | succ k =>
       obtain⟨r,hr⟩:∃r,rs[k]? = some r:=⟨_,ay (by omega)⟩
       have hbl:=HBk.out.last (r:=r) (L':=rs.take k) (by rw [fJ,hr];rfl)
       have hy:ts[k]? = some (vC S5 σ r):=by
        rw [HTs.out,bI,hr]
        exact bW some (Y3 (hb5.trans HSb.out.1) (hs5.trans HSb.out.2) σ r)
       obtain⟨z,hz⟩:∃z,z=vC S5 σ r:=⟨_,rfl⟩
       rw [← hz] at hy
       have hOw:Own wq 41 11 (.slice va ts.length vc) ts.length (rows encR ts):=HA5.out.P (rl (.slice va ts.length vc) ts) (by rw [HL2.out];simp)
       obtain⟨ga,ca,e1,galt,p0,p1,p2,p3,p4,p5,p6,p7,p8,p9,p10⟩:=GU hOw hy
       simp only [bD,je] at e1
       obtain⟨rfl,rfl⟩:=e1
       obtain⟨z0,z1,z2,z3,z4,z5,z6,z7,z8,z9,z10⟩:=z
       simp only at p0 p1 p2 p3 p4 p5 p6 p7 p8 p9 p10
       have hk0:((k:Int)+1 - 1)=(k:Int):=by omega
       have hkr:(k:Int) < (rs.length:Int):=by omega
       have hge:(0:Int)≤(k:Int):=by omega
       have g2:=(bF HA5.out).lt
       have HZ:=ae hz
       have HBl:=ae hbl
       rw [show(((k+1:Nat):Int) - 1)=(k:Int) by omega]
       clear hy hOw hz hbl hr
       go_upto_region 15 with fail
       obtain⟨cs,hcs⟩:∃cs,cs=([.int .i64 z0,.int .i64 z1,.int .i64 z2,.int .i64 z3,.int .i64 z4,.int .i64 z5,.string ⟨z6.toArray⟩,.string ⟨z7.toArray⟩,.bool z8,.int .i64 z9,.int .i64 z10]:List Value):=⟨_,rfl⟩
       have hA14:All w.heap.size w (kK g R Q (.slice hva5 Hs.length hvc5) Hs S5 sv5 fv5 nv' X' ++ (bk wq.heap.size cs 41 :: l2)) (wq.alloc (.cells #[.int .i64 z0,.int .i64 z1,.int .i64 z2,.int .i64 z3,.int .i64 z4,.int .i64 z5,.string ⟨z6.toArray⟩,.string ⟨z7.toArray⟩,.bool z8,.int .i64 z9,.int .i64 z10] 41)):=by
        rw [hcs];exact(HA5.out.sO _ _).perm List.perm_middle.symm
       have HCs:=ae hcs
       have k14:=(Yt hA14).rk
       have c0:=k14.cell 0
       rw [hcs] at c0
       simp only [List.getElem?_cons_zero] at c0
       have l14:=k14.lt
       clear p0 p1 p2 p3 p4 p5 p6 p7 p8 p9 p10 g2 hkr hge hcs k14 galt
       generalize wq.alloc (.cells #[.int .i64 z0,.int .i64 z1,.int .i64 z2,.int .i64 z3,.int .i64 z4,.int .i64 z5,.string ⟨z6.toArray⟩,.string ⟨z7.toArray⟩,.bool z8,.int .i64 z9,.int .i64 z10] 41)=w14 at *
       generalize wq.heap.size=r14 at *
       have HA14:=ae hA14
       clear hA14
       have hz:=HZ.out
       clear HZ
       cases HBl.out with
       | ins Mg p ci j0 a b mp mc hc h0 hp hq hj hb =>
        simp only [vC,Ti,A8,Qq,Rc.mk.injEq] at hz
        obtain⟨rfl,rfl,rfl,rfl,rfl,rfl,rfl,rfl,rfl,rfl,rfl⟩:=hz
        have e1:=bW (fun l=>l[1]?) HCs.out
        have e2:=bW (fun l=>l[2]?) HCs.out
        have e4:=bW (fun l=>l[4]?) HCs.out
        have e6:=bW (fun l=>l[6]?) HCs.out
        have e7:=bW (fun l=>l[7]?) HCs.out
        have e8:=bW (fun l=>l[8]?) HCs.out
        simp only [fQ,fP] at e1 e2 e4 e6 e7 e8
        go_upto_region 17 with fail
        haveI hne:Nonempty (dS (Ym g R Q r14 (.slice hva5 Hs.length hvc5) cs)):=⟨⟨w14,Yt HA14.out⟩⟩
        have y0:=fun(x:dS (Ym g R Q r14 (.slice hva5 Hs.length hvc5) cs))=>x.h.bk.cell 0
        have y1:=fun(x:dS (Ym g R Q r14 (.slice hva5 Hs.length hvc5) cs))=>x.h.rk.cell 1
        have y2:=fun(x:dS (Ym g R Q r14 (.slice hva5 Hs.length hvc5) cs))=>x.h.rk.cell 2
        have y4:=fun(x:dS (Ym g R Q r14 (.slice hva5 Hs.length hvc5) cs))=>x.h.rk.cell 4
        have y6:=fun(x:dS (Ym g R Q r14 (.slice hva5 Hs.length hvc5) cs))=>x.h.rk.cell 6
        have y7:=fun(x:dS (Ym g R Q r14 (.slice hva5 Hs.length hvc5) cs))=>x.h.rk.cell 7
        simp only [fQ,fP,e1,e2,e4,e6,e7] at y0 y1 y2 y4 y6 y7
        refine qP (Ym g R Q r14 (.slice hva5 Hs.length hvc5) cs) (TF w14 (fun v w'=>YJ w.heap.size w (bk r14 cs 41 :: l2) g R Q (c5+1) (.slice hva5 Hs.length hvc5) nv' Hs S5 X' (uH Mg p j0 ci) σ (.returned v) w')) (fun _ v=>∃v0 er,v=.tuple #[v0,.int .i64 er]) 7 (by kernel_rfl) (by kernel_rfl) (Aj (YE HA14.out) YD) (kL Yn) (ak _ _) ?_
        simp only [mD,mr,l9,lZ]
        repeat (first
         | (refine RV.aN (by rfl) (by rfl) (fun K hK=>?_);go_big_quiet_step (fail);refine az ?_;refine hK.out _ ?_;clear hK K)
         | (refine RV.aK (by rfl) ?_;simp only [Act.put,dL,dK,dJ]))
        refine RV.dM (by rfl) (by rfl) (fun w=>by go_simp;exact⟨rfl,rfl⟩) (⟨_,.slice none 0 0,0,rfl⟩) (fun X wx hx=>?_) (fun v hv=>?_)
        ·have hx2:Below w14.heap.size w14 wx:=hx
         exact(Zn (HA14.out.still hx2) HT5.out HW5.out hc h0 hp hq hj).mono fun e wy h=>Yr h
        obtain⟨v0',er',rfl⟩:=hv
        simp only [Act.put,dL,dK,dJ]
        repeat (first
         | (refine RV.aN (by rfl) (by rfl) (fun K hK=>?_);go_big_quiet_step (fail);refine az ?_;refine hK.out _ ?_;clear hK K)
         | (refine RV.aK (by rfl) ?_;simp only [Act.put,dL,dK,dJ]))
        refine RV.eH ?_
        rintro w15 ⟨S15,sv15,fv15,K15,d15,v15,er15,e15,hA15,hT15,hW15,hb15,hs15⟩
        have HA15:=ae (show All w.heap.size w (kK g R Q (.slice hva5 Hs.length hvc5) Hs S15 sv15 fv15 nv' X' ++ l2) w15 from hA15.sub (List.Sublist.append_left (Xb _ _) _))
        have HT15:=ae hT15
        have HW15:=ae hW15
        have HB15:=ae (show S15.b=S'.b from hb15.trans hb5)
        have HS15:=ae (show S15.s=S'.s from hs15.trans hs5)
        clear y0 y1 y2 y4 y6 y7 hne hA15 hT15 hW15 hb15 hs15 e15
        go_wp2_with fail
        go_roundw
        case rel=>exact⟨k,by omega,by go_num,S15,sv15,fv15,K15,d15,_,c5+1,HA15.out,HT15.out,HW15.out,hb,HB15.out,HS15.out,by omega,by omega⟩
        case measure=>simp [intOf]
       | rem q ci i0 a mq mc hL hc h0 hp hq hi =>
        simp only [vC,Ub,A8,Qq,Rc.mk.injEq] at hz
        obtain⟨rfl,rfl,rfl,rfl,rfl,rfl,rfl,rfl,rfl,rfl,rfl⟩:=hz
        have e1:=bW (fun l=>l[1]?) HCs.out
        have e2:=bW (fun l=>l[2]?) HCs.out
        have e4:=bW (fun l=>l[4]?) HCs.out
        have e6:=bW (fun l=>l[6]?) HCs.out
        have e7:=bW (fun l=>l[7]?) HCs.out
        have e8:=bW (fun l=>l[8]?) HCs.out
        simp only [fQ,fP] at e1 e2 e4 e6 e7 e8
        go_upto_region 19 with fail
        haveI hne:Nonempty (dS (Ym g R Q r14 (.slice hva5 Hs.length hvc5) cs)):=⟨⟨w14,Yt HA14.out⟩⟩
        have y0:=fun(x:dS (Ym g R Q r14 (.slice hva5 Hs.length hvc5) cs))=>x.h.bk.cell 0
        have y1:=fun(x:dS (Ym g R Q r14 (.slice hva5 Hs.length hvc5) cs))=>x.h.rk.cell 1
        have y2:=fun(x:dS (Ym g R Q r14 (.slice hva5 Hs.length hvc5) cs))=>x.h.rk.cell 2
        have y4:=fun(x:dS (Ym g R Q r14 (.slice hva5 Hs.length hvc5) cs))=>x.h.rk.cell 4
        have y6:=fun(x:dS (Ym g R Q r14 (.slice hva5 Hs.length hvc5) cs))=>x.h.rk.cell 6
        have y7:=fun(x:dS (Ym g R Q r14 (.slice hva5 Hs.length hvc5) cs))=>x.h.rk.cell 7
        simp only [fQ,fP,e1,e2,e4,e6,e7] at y0 y1 y2 y4 y6 y7
        refine qP (Ym g R Q r14 (.slice hva5 Hs.length hvc5) cs) (TF w14 (fun v w'=>YJ w.heap.size w (bk r14 cs 41 :: l2) g R Q (c5+1) (.slice hva5 Hs.length hvc5) nv' Hs S5 X' (ms X) σ (.returned v) w')) (fun _ v=>∃v0 er,v=.tuple #[v0,.int .i64 er]) 11 (by kernel_rfl) (by kernel_rfl) (Aj (YE HA14.out) YD) (kL Yn) (ak _ _) ?_
        simp only [mD,mr,l9,lZ]
        repeat (first
         | (refine RV.aN (by rfl) (by rfl) (fun K hK=>?_);go_big_quiet_step (fail);refine az ?_;refine hK.out _ ?_;clear hK K)
         | (refine RV.aK (by rfl) ?_;simp only [Act.put,dL,dK,dJ]))
        refine RV.dM (by rfl) (by rfl) (fun w=>by go_simp;exact⟨rfl,rfl⟩) (⟨_,.slice none 0 0,0,rfl⟩) (fun X wx hx=>?_) (fun v hv=>?_)
        ·have hx2:Below w14.heap.size w14 wx:=hx
         exact(Zm (HA14.out.still hx2) HT5.out HW5.out HMW.out hc h0 hp hq hi (Zh HT.out hc hp hq)).mono fun e wy h=>Yr h
        obtain⟨v0',er',rfl⟩:=hv
        simp only [Act.put,dL,dK,dJ]
        repeat (first
         | (refine RV.aN (by rfl) (by rfl) (fun K hK=>?_);go_big_quiet_step (fail);refine az ?_;refine hK.out _ ?_;clear hK K)
         | (refine RV.aK (by rfl) ?_;simp only [Act.put,dL,dK,dJ]))
        refine RV.eH ?_
        rintro w15 ⟨S15,sv15,fv15,K15,d15,v15,er15,e15,hA15,hT15,hW15,hb15,hs15⟩
        have HA15:=ae (show All w.heap.size w (kK g R Q (.slice hva5 Hs.length hvc5) Hs S15 sv15 fv15 nv' X' ++ l2) w15 from hA15.sub (List.Sublist.append_left (Xb _ _) _))
        have HT15:=ae hT15
        have HW15:=ae hW15
        have HB15:=ae (show S15.b=S'.b from hb15.trans hb5)
        have HS15:=ae (show S15.s=S'.s from hs15.trans hs5)
        clear y0 y1 y2 y4 y6 y7 hne hA15 hT15 hW15 hb15 hs15 e15
        go_wp2_with fail
        go_roundw
        case rel=>exact⟨k,by omega,by go_num,S15,sv15,fv15,K15,d15,_,c5+1,HA15.out,HT15.out,HW15.out,(by rw [hL];exact .done _ (.refl _)),HB15.out,HS15.out,by omega,by omega⟩
        case measure=>simp [intOf]
       | new h mh name val hL hh hk h1 =>
        simp only [vC,Ae,A8,Qq,Rc.mk.injEq] at hz
        obtain⟨rfl,rfl,rfl,rfl,rfl,rfl,rfl,rfl,rfl,rfl,rfl⟩:=hz
        have e1:=bW (fun l=>l[1]?) HCs.out
        have e2:=bW (fun l=>l[2]?) HCs.out
        have e4:=bW (fun l=>l[4]?) HCs.out
        have e6:=bW (fun l=>l[6]?) HCs.out
        have e7:=bW (fun l=>l[7]?) HCs.out
        have e8:=bW (fun l=>l[8]?) HCs.out
        simp only [fQ,fP] at e1 e2 e4 e6 e7 e8
        obtain⟨rs0,en0,hdm⟩:=Y7 (val:=val) hh hk h1
        have hlv:=Yv (m':={ mh with attrs:=mh.attrs ++ [(z6,val)] }) hh (lV hh).2
        go_upto_region 21 with fail
        haveI hne:Nonempty (dS (Ym g R Q r14 (.slice hva5 Hs.length hvc5) cs)):=⟨⟨w14,Yt HA14.out⟩⟩
        have y0:=fun(x:dS (Ym g R Q r14 (.slice hva5 Hs.length hvc5) cs))=>x.h.bk.cell 0
        have y1:=fun(x:dS (Ym g R Q r14 (.slice hva5 Hs.length hvc5) cs))=>x.h.rk.cell 1
        have y2:=fun(x:dS (Ym g R Q r14 (.slice hva5 Hs.length hvc5) cs))=>x.h.rk.cell 2
        have y4:=fun(x:dS (Ym g R Q r14 (.slice hva5 Hs.length hvc5) cs))=>x.h.rk.cell 4
        have y6:=fun(x:dS (Ym g R Q r14 (.slice hva5 Hs.length hvc5) cs))=>x.h.rk.cell 6
        have y7:=fun(x:dS (Ym g R Q r14 (.slice hva5 Hs.length hvc5) cs))=>x.h.rk.cell 7
        simp only [fQ,fP,e1,e2,e4,e6,e7] at y0 y1 y2 y4 y6 y7
        refine qP (Ym g R Q r14 (.slice hva5 Hs.length hvc5) cs) (TF w14 (fun v w'=>YJ w.heap.size w (bk r14 cs 41 :: l2) g R Q (c5+1) (.slice hva5 Hs.length hvc5) nv' Hs S5 X' (ms X) σ (.returned v) w')) (fun _ v=>∃v0 er,v=.tuple #[v0,.int .i64 er]) 9 (by kernel_rfl) (by kernel_rfl) (Aj (YE HA14.out) YD) (kL Yn) (ak _ _) ?_
        simp only [mD,mr,l9,lZ]
        repeat (first
         | (refine RV.aN (by rfl) (by rfl) (fun K hK=>?_);go_big_quiet_step (fail);refine az ?_;refine hK.out _ ?_;clear hK K)
         | (refine RV.aK (by rfl) ?_;simp only [Act.put,dL,dK,dJ]))
        refine RV.dM (by rfl) (by rfl) (fun w=>by go_simp;exact⟨rfl,rfl⟩) (⟨_,.slice none 0 0,0,rfl⟩) (fun X wx hx=>?_) (fun v hv=>?_)
        ·have hx2:Below w14.heap.size w14 wx:=hx
         exact(Y2 (HA14.out.still hx2) HT5.out HW5.out hlv hdm).mono fun e wy h=>Yr h
        obtain⟨v0',er',rfl⟩:=hv
        simp only [Act.put,dL,dK,dJ]
        repeat (first
         | (refine RV.aN (by rfl) (by rfl) (fun K hK=>?_);go_big_quiet_step (fail);refine az ?_;refine hK.out _ ?_;clear hK K)
         | (refine RV.aK (by rfl) ?_;simp only [Act.put,dL,dK,dJ]))
        refine RV.eH ?_
        rintro w15 ⟨S15,sv15,fv15,K15,d15,v15,er15,e15,hA15,hT15,hW15,hb15,hs15⟩
        have q8:=(Yt hA15).rk.cell 8
        simp only [e8] at q8
        have ql:=(Yt hA15).rk.lt
        have HA15:=ae (show All w.heap.size w (kK g R Q (.slice hva5 Hs.length hvc5) Hs S15 sv15 fv15 nv' X' ++ l2) w15 from hA15.sub (List.Sublist.append_left (Xb _ _) _))
        have HT15:=ae hT15
        have HW15:=ae hW15
        have HB15:=ae (show S15.b=S'.b from hb15.trans hb5)
        have HS15:=ae (show S15.s=S'.s from hs15.trans hs5)
        clear y0 y1 y2 y4 y6 y7 hne hA15 hT15 hW15 hb15 hs15 e15
        go_wp2_with fail
        go_roundw
        case rel=>exact⟨k,by omega,by go_num,S15,sv15,fv15,K15,d15,_,c5+1,HA15.out,HT15.out,HW15.out,(by rw [hL];exact .done _ (.refl _)),HB15.out,HS15.out,by omega,by omega⟩
        case measure=>simp [intOf]
       | old h k0 mh y al hL hh hk hy ha =>
        simp only [vC,Ae,A8,Qq,Rc.mk.injEq] at hz
        obtain⟨rfl,rfl,rfl,rfl,rfl,rfl,rfl,rfl,rfl,rfl,rfl⟩:=hz
        have e1:=bW (fun l=>l[1]?) HCs.out
        have e2:=bW (fun l=>l[2]?) HCs.out
        have e4:=bW (fun l=>l[4]?) HCs.out
        have e6:=bW (fun l=>l[6]?) HCs.out
        have e7:=bW (fun l=>l[7]?) HCs.out
        have e8:=bW (fun l=>l[8]?) HCs.out
        simp only [fQ,fP] at e1 e2 e4 e6 e7 e8
        obtain⟨f1,f2,f3,f4,f5,f6⟩:=Y0 HT.out hh hy
        obtain⟨rs0,en0,hdm⟩:=Y6 hh hk f1 hy ha
        have hlv:=Yv (m':={ mh with attrs:=al }) hh (lV hh).2
        have hlv2:=Yv (m':={ mh with attrs:=mh.attrs.eraseIdx k0 }) hh (lV hh).2
        have hel:(mh.attrs.eraseIdx k0).length+1=mh.attrs.length:=by have:=(ai.1 hy).1;rw [Xk,aC this];omega
        go_upto_region 21 with fail
        haveI hne:Nonempty (dS (Ym g R Q r14 (.slice hva5 Hs.length hvc5) cs)):=⟨⟨w14,Yt HA14.out⟩⟩
        have y0:=fun(x:dS (Ym g R Q r14 (.slice hva5 Hs.length hvc5) cs))=>x.h.bk.cell 0
        have y1:=fun(x:dS (Ym g R Q r14 (.slice hva5 Hs.length hvc5) cs))=>x.h.rk.cell 1
        have y2:=fun(x:dS (Ym g R Q r14 (.slice hva5 Hs.length hvc5) cs))=>x.h.rk.cell 2
        have y4:=fun(x:dS (Ym g R Q r14 (.slice hva5 Hs.length hvc5) cs))=>x.h.rk.cell 4
        have y6:=fun(x:dS (Ym g R Q r14 (.slice hva5 Hs.length hvc5) cs))=>x.h.rk.cell 6
        have y7:=fun(x:dS (Ym g R Q r14 (.slice hva5 Hs.length hvc5) cs))=>x.h.rk.cell 7
        simp only [fQ,fP,e1,e2,e4,e6,e7] at y0 y1 y2 y4 y6 y7
        refine qP (Ym g R Q r14 (.slice hva5 Hs.length hvc5) cs) (TF w14 (fun v w'=>YJ w.heap.size w (bk r14 cs 41 :: l2) g R Q (c5+1) (.slice hva5 Hs.length hvc5) nv' Hs S5 X' ((ms X).set h { mh with attrs:=mh.attrs.eraseIdx k0 }) σ (.returned v) w')) (fun _ v=>∃v0 er,v=.tuple #[v0,.int .i64 er]) 9 (by kernel_rfl) (by kernel_rfl) (Aj (YE HA14.out) YD) (kL Yn) (ak _ _) ?_
        simp only [mD,mr,l9,lZ]
        repeat (first
         | (refine RV.aN (by rfl) (by rfl) (fun K hK=>?_);go_big_quiet_step (fail);refine az ?_;refine hK.out _ ?_;clear hK K)
         | (refine RV.aK (by rfl) ?_;simp only [Act.put,dL,dK,dJ]))
        refine RV.dM (by rfl) (by rfl) (fun w=>by go_simp;exact⟨rfl,rfl⟩) (⟨_,.slice none 0 0,0,rfl⟩) (fun X wx hx=>?_) (fun v hv=>?_)
        ·have hx2:Below w14.heap.size w14 wx:=hx
         exact(Y2 (HA14.out.still hx2) HT5.out HW5.out hlv hdm).mono fun e wy h=>Yr h
        obtain⟨v0',er',rfl⟩:=hv
        simp only [Act.put,dL,dK,dJ]
        repeat (first
         | (refine RV.aN (by rfl) (by rfl) (fun K hK=>?_);go_big_quiet_step (fail);refine az ?_;refine hK.out _ ?_;clear hK K)
         | (refine RV.aK (by rfl) ?_;simp only [Act.put,dL,dK,dJ]))
        refine RV.eH ?_
        rintro w15 ⟨S15,sv15,fv15,K15,d15,v15,er15,e15,hA15,hT15,hW15,hb15,hs15⟩
        have q8:=(Yt hA15).rk.cell 8
        simp only [e8] at q8
        have ql:=(Yt hA15).rk.lt
        have HA15:=ae hA15
        have HT15:=ae hT15
        have HW15:=ae hW15
        have hhd:S5.hd (σ h)=S15.hd (σ h):=by unfold Tr.hd;rw [hb15,hs15]
        rw [hhd] at e1
        clear y0 y1 y2 y4 y6 y7 hne hA15 hT15 hW15 e15 hhd
        go_upto_region 23 with fail
        haveI hne:Nonempty (dS (Ym g R Q r14 (.slice hva5 Hs.length hvc5) cs)):=⟨⟨w15,Yt HA15.out⟩⟩
        have y0:=fun(x:dS (Ym g R Q r14 (.slice hva5 Hs.length hvc5) cs))=>x.h.bk.cell 0
        have y1:=fun(x:dS (Ym g R Q r14 (.slice hva5 Hs.length hvc5) cs))=>x.h.rk.cell 1
        have y2:=fun(x:dS (Ym g R Q r14 (.slice hva5 Hs.length hvc5) cs))=>x.h.rk.cell 2
        have y4:=fun(x:dS (Ym g R Q r14 (.slice hva5 Hs.length hvc5) cs))=>x.h.rk.cell 4
        have y6:=fun(x:dS (Ym g R Q r14 (.slice hva5 Hs.length hvc5) cs))=>x.h.rk.cell 6
        have y7:=fun(x:dS (Ym g R Q r14 (.slice hva5 Hs.length hvc5) cs))=>x.h.rk.cell 7
        simp only [fQ,fP,e1,e2,e4,e6,e7] at y0 y1 y2 y4 y6 y7
        refine qP (Ym g R Q r14 (.slice hva5 Hs.length hvc5) cs) (TF w15 (fun v w'=>YJ w.heap.size w (bk r14 cs 41 :: l2) g R Q (c5+1) (.slice hva5 Hs.length hvc5) nv' Hs S15 X' (((ms X).set h { mh with attrs:=mh.attrs.eraseIdx k0 }).set h { { mh with attrs:=mh.attrs.eraseIdx k0 } with attrs:=mh.attrs.eraseIdx k0 ++ [(y.1,y.2)] }) σ (.returned v) w')) (fun _ v=>∃v0 er,v=.tuple #[v0,.int .i64 er]) 11 (by kernel_rfl) (by kernel_rfl) (Aj (YE HA15.out) YD) (kL Yn) (ak _ _) ?_
        simp only [mD,mr,l9,lZ]
        repeat (first
         | (refine RV.aN (by rfl) (by rfl) (fun K hK=>?_);go_big_quiet_step (fail);refine az ?_;refine hK.out _ ?_;clear hK K)
         | (refine RV.aK (by rfl) ?_;simp only [Act.put,dL,dK,dJ]))
        refine RV.dM (by rfl) (by rfl) (fun w=>by go_simp;exact⟨rfl,rfl⟩) (⟨_,.slice none 0 0,0,rfl⟩) (fun X wx hx=>?_) (fun v hv=>?_)
        ·have hx2:Below w15.heap.size w15 wx:=hx
         exact(Zl (HA15.out.still hx2) (HL.out.below (HA15.out.still hx2).below) HT15.out HW15.out hlv2 hk f2 f3 f4 f5 (YI f1 hy) (by show(mh.attrs.eraseIdx k0).length+1≤_;omega) (by show(mh.attrs.eraseIdx k0).length < 64;omega)).mono fun e wy h=>Yr h
        obtain⟨v0',er',rfl⟩:=hv
        simp only [Act.put,dL,dK,dJ]
        repeat (first
         | (refine RV.aN (by rfl) (by rfl) (fun K hK=>?_);go_big_quiet_step (fail);refine az ?_;refine hK.out _ ?_;clear hK K)
         | (refine RV.aK (by rfl) ?_;simp only [Act.put,dL,dK,dJ]))
        refine RV.eH ?_
        rintro w16 ⟨S16,sv16,fv16,K16,d16,v16,er16,e16,hA16,hT16,hW16,hb16,hs16⟩
        clear q8 ql
        have HA16:=ae (show All w.heap.size w (kK g R Q (.slice hva5 Hs.length hvc5) Hs S16 sv16 fv16 nv' X' ++ l2) w16 from hA16.sub (List.Sublist.append_left (Xb _ _) _))
        have HT16:=ae hT16
        have HW16:=ae hW16
        have HB16:=ae (show S16.b=S'.b from hb16.trans (hb15.trans hb5))
        have HS16:=ae (show S16.s=S'.s from hs16.trans (hs15.trans hs5))
        clear y0 y1 y2 y4 y6 y7 hne hA16 hT16 hW16 hb16 hs16 e16
        go_wp2_with fail
        go_roundw
        case rel=>exact⟨k,by omega,by go_num,S16,sv16,fv16,K16,d16,_,c5+1,HA16.out,HT16.out,HW16.out,(by rw [hL,Yo];exact .done _ (Yp.put hh _ (Yz hy))),HB16.out,HS16.out,by omega,by omega⟩
        case measure=>simp [intOf]
       | data h mh dt ix cnt sz hL hh hk =>
        simp only [vC,Ae,A8,Qq,Rc.mk.injEq] at hz
        obtain⟨rfl,rfl,rfl,rfl,rfl,rfl,rfl,rfl,rfl,rfl,rfl⟩:=hz
        have e1:=bW (fun l=>l[1]?) HCs.out
        have e2:=bW (fun l=>l[2]?) HCs.out
        have e4:=bW (fun l=>l[4]?) HCs.out
        have e6:=bW (fun l=>l[6]?) HCs.out
        have e7:=bW (fun l=>l[7]?) HCs.out
        have e8:=bW (fun l=>l[8]?) HCs.out
        simp only [fQ,fP] at e1 e2 e4 e6 e7 e8
        obtain⟨f1,f2⟩:=YZ HT.out hh hk
        have hlv:=Yv (m':={ mh with data:=dt }) hh (lV hh).2
        go_upto_region 25 with fail
        haveI hne:Nonempty (dS (Ym g R Q r14 (.slice hva5 Hs.length hvc5) cs)):=⟨⟨w14,Yt HA14.out⟩⟩
        have y0:=fun(x:dS (Ym g R Q r14 (.slice hva5 Hs.length hvc5) cs))=>x.h.bk.cell 0
        have y1:=fun(x:dS (Ym g R Q r14 (.slice hva5 Hs.length hvc5) cs))=>x.h.rk.cell 1
        have y2:=fun(x:dS (Ym g R Q r14 (.slice hva5 Hs.length hvc5) cs))=>x.h.rk.cell 2
        have y4:=fun(x:dS (Ym g R Q r14 (.slice hva5 Hs.length hvc5) cs))=>x.h.rk.cell 4
        have y6:=fun(x:dS (Ym g R Q r14 (.slice hva5 Hs.length hvc5) cs))=>x.h.rk.cell 6
        have y7:=fun(x:dS (Ym g R Q r14 (.slice hva5 Hs.length hvc5) cs))=>x.h.rk.cell 7
        simp only [fQ,fP,e1,e2,e4,e6,e7] at y0 y1 y2 y4 y6 y7
        refine qP (Ym g R Q r14 (.slice hva5 Hs.length hvc5) cs) (TF w14 (fun v w'=>YJ w.heap.size w (bk r14 cs 41 :: l2) g R Q c5 (.slice hva5 Hs.length hvc5) nv' Hs S5 X' (((ms X).set h { mh with data:=dt }).set h { { mh with data:=dt } with data:=mh.data }) σ (.returned v) w')) (fun _ v=>∃v0 er,v=.tuple #[v0,.int .i64 er]) 9 (by kernel_rfl) (by kernel_rfl) (Aj (YE HA14.out) YD) (kL Yn) (ak _ _) ?_
        simp only [mD,mr,l9,lZ]
        repeat (first
         | (refine RV.aN (by rfl) (by rfl) (fun K hK=>?_);go_big_quiet_step (fail);refine az ?_;refine hK.out _ ?_;clear hK K)
         | (refine RV.aK (by rfl) ?_;simp only [Act.put,dL,dK,dJ]))
        refine RV.dM (by rfl) (by rfl) (fun w=>by go_simp;exact⟨rfl,rfl⟩) (⟨_,.slice none 0 0,0,rfl⟩) (fun X wx hx=>?_) (fun v hv=>?_)
        ·have hx2:Below w14.heap.size w14 wx:=hx
         exact(Zo (HA14.out.still hx2) (HL.out.below (HA14.out.still hx2).below) HT5.out HW5.out (by omega) hlv hk f1 (by omega)).mono fun e wy h=>Yr h
        obtain⟨v0',er',rfl⟩:=hv
        simp only [Act.put,dL,dK,dJ]
        repeat (first
         | (refine RV.aN (by rfl) (by rfl) (fun K hK=>?_);go_big_quiet_step (fail);refine az ?_;refine hK.out _ ?_;clear hK K)
         | (refine RV.aK (by rfl) ?_;simp only [Act.put,dL,dK,dJ]))
        refine RV.eH ?_
        rintro w15 ⟨S15,sv15,fv15,K15,d15,v15,er15,e15,hA15,hT15,hW15,hb15,hs15⟩
        have HA15:=ae (show All w.heap.size w (kK g R Q (.slice hva5 Hs.length hvc5) Hs S15 sv15 fv15 nv' X' ++ l2) w15 from hA15.sub (List.Sublist.append_left (Xb _ _) _))
        have HT15:=ae hT15
        have HW15:=ae hW15
        have HB15:=ae (show S15.b=S'.b from hb15.trans hb5)
        have HS15:=ae (show S15.s=S'.s from hs15.trans hs5)
        clear y0 y1 y2 y4 y6 y7 hne hA15 hT15 hW15 hb15 hs15 e15
        go_wp2_with fail
        go_roundw
        case rel=>exact⟨k,by omega,by go_num,S15,sv15,fv15,K15,d15,_,c5,HA15.out,HT15.out,HW15.out,(by rw [hL,Yo];exact(show Bk (ms X) [] ((ms X).set h mh) from by rw [set_self hh];exact .done _ (.refl _))),HB15.out,HS15.out,by omega,by omega⟩
        case measure=>simp [intOf]
end Go.Proofs.YtfelmdkeaacfeaaGreatDoor.W
end
