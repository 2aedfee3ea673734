/- Texts joined: EqA LwM Fmd Vlz Vok. -/
import Derived.Test.YtfelmdkeaacfeaaGreatDoorTV1
set_option maxRecDepth 100000
set_option maxHeartbeats 40000000
set_option linter.unusedVariables false
set_option linter.unusedSimpArgs false
section
namespace Go.Proofs.YtfelmdkeaacfeaaGreatDoor.W
open Go.RowKit
def WH (w:World)(n:Nat)(iv:Value)(wr:World):Prop:=∃i:Nat,i≤n∧iv=.int .i64 (i:Int)∧Below w.heap.size w wr
theorem AB {n:Nd}{b:Bool}{v v':Value}(h:Value.tuple #[.agg (jd { n with av:=v }).toArray,.bool b]=.tuple #[.agg (jd { n with av:=v' }).toArray,.bool b]):v=v':=by
 simpa [jd] using h
def Vs (n:Nd)(b:Bool):List Value→World→Prop
 | [v],w'=>∀v',v=.tuple #[.agg (jd { n with av:=v' }).toArray,.bool b]→Own w' 91 2 v' n.attrs.length (cu n.attrs)
 | _,_=>True
theorem Vs.below {n:Nd}{b:Bool}(k:List Value)(w1 w2:World)(h:Vs n b k w1)(hb:Below w1.heap.size w1 w2):Vs n b k w2:=by
 match k,h with
 | [],_=>trivial
 | [v],h=>exact fun v' e=>bH (h v' e) hb
 | _ :: _ :: _,_=>trivial
def Vt (l:List Value)(n:Nat):List Value→World→Prop
 | [v],w'=>Own w' 3 1 v n l
 | _,_=>True
theorem Vt.below {l:List Value}{n:Nat}(k:List Value)(w1 w2:World)(h:Vt l n k w1)(hb:Below w1.heap.size w1 w2):Vt l n k w2:=by
 match k,h with
 | [],_=>trivial
 | [v],h=>exact bH h hb
 | _ :: _ :: _,_=>trivial
theorem qH {F:Nat→Prop}{w w':World}{r j:Nat}(v:Value)(h:dU F w w')(hr:F r):dU F w (w'.setCell ⟨r,j,none⟩ v):=h.setCell ⟨r,j,none⟩ (fun _=>hr) v
theorem Uh {w:World}{r:Nat}{cs:List Value}{t:TypeId}{G:World→Prop}(k:dD w r cs t)(hl:cs.length=9)(v0 v1 v2 v3 v4 v5 v6 v7 v8:Value)(hG:∀w',dD w' r [v0,v1,v2,v3,v4,v5,v6,v7,v8] t→dU (fun k=>k=r) w w'→G w') :
  G (((((((((w.setCell ⟨r,0,none⟩ v0).setCell ⟨r,1,none⟩ v1).setCell ⟨r,2,none⟩ v2).setCell ⟨r,3,none⟩ v3).setCell ⟨r,4,none⟩ v4).setCell ⟨r,5,none⟩ v5).setCell ⟨r,6,none⟩ v6).setCell ⟨r,7,none⟩ v7).setCell ⟨r,8,none⟩ v8):=by
 have h9:=((((((((k.set 0 v0).set 1 v1).set 2 v2).set 3 v3).set 4 v4).set 5 v5).set 6 v6).set 7 v7).set 8 v8
 refine hG _ ?_ (qH _ (qH _ (qH _ (qH _ (qH _ (qH _ (qH _ (qH _ (qH _ (dU.refl _ _) rfl) rfl) rfl) rfl) rfl) rfl) rfl) rfl) rfl)
 match cs,hl with
 | [_,_,_,_,_,_,_,_,_],_=>simpa using h9
def UT (w:World)(r:Nat)(v0 v1 v2 v3 v4 v5 v6 v7 v8:Value):World :=
 ((((((((w.setCell ⟨r,0,none⟩ v0).setCell ⟨r,1,none⟩ v1).setCell ⟨r,2,none⟩ v2).setCell ⟨r,3,none⟩ v3).setCell ⟨r,4,none⟩ v4).setCell ⟨r,5,none⟩ v5).setCell ⟨r,6,none⟩ v6).setCell ⟨r,7,none⟩ v7).setCell ⟨r,8,none⟩ v8
theorem Ui {w:World}{r:Nat}{cs:List Value}{t:TypeId}(k:dD w r cs t)(hl:cs.length=9)(v0 v1 v2 v3 v4 v5 v6 v7 v8:Value):dD (UT w r v0 v1 v2 v3 v4 v5 v6 v7 v8) r [v0,v1,v2,v3,v4,v5,v6,v7,v8] t∧dU (fun k=>k=r) w (UT w r v0 v1 v2 v3 v4 v5 v6 v7 v8) :=
 Uh (G:=fun w'=>dD w' r [v0,v1,v2,v3,v4,v5,v6,v7,v8] t∧dU (fun k=>k=r) w w') k hl v0 v1 v2 v3 v4 v5 v6 v7 v8 (fun _ h1 h2=>⟨h1,h2⟩)
structure L9 (g R Q gh i:Nat) (hv:Value) (hd:Int) (w:World):Prop where
 bk:dD w g [.pointer (some ⟨R,0,none⟩),.pointer (some ⟨Q,0,none⟩),hv] 33
 hc:w.cell? ⟨gh,i,none⟩=some (.int .i64 hd)
def Ez (W:World)(n:Nd)(b:Bool):List Value→List Ob→World→Prop
 | [],Y,w'=>Below W.heap.size W w'∧yH W Y w'
 | [v],Y,w'=>Below W.heap.size W w'∧yH W Y w'∧Vs n b [v] w'
 | [_,v],Y,w'=>Below W.heap.size W w'∧∃r va,v=.tuple #[.agg (jd { n with av:=va }).toArray,.bool b]∧W.heap.size≤r∧bk r (jd jV) 62∈Y∧dD w' r (jd { n with av:=va }) 62∧Own w' 91 2 va n.attrs.length (cu n.attrs)
 | _,_,_=>False
def VR (n:Nd)(b:Bool):List Value→Value→Prop
 | [],v=>∃va vc,v=.tuple #[.agg (jd { n with av:=.slice va n.attrs.length vc }).toArray,.bool b]
 | _,v=>v=undef
theorem Ez.low {W w':World}{n:Nd}{b:Bool}{k:List Value}{Y:List Ob}(h:Ez W n b k Y w'):Below W.heap.size W w':=by
 match k,h with
 | [],h=>exact h.1
 | [v],h=>exact h.1
 | [_,v],h=>exact h.1
theorem Ez.alloc {W:World}{n:Nd}{b:Bool}(k:List Value)(Y:List Ob)(w':World)(cs:List Value)(ty:TypeId)(h:Ez W n b k Y w'):Ez W n b k (bk w'.heap.size cs ty :: Y) (w'.alloc (.cells cs.toArray ty)):=by
 have hb:Below w'.heap.size w' (w'.alloc (.cells cs.toArray ty)):=(ak _ _).alloc (au _) _
 have hm:∀{Z},Below W.heap.size W w'→yH W Z w'→yH W (bk w'.heap.size cs ty :: Z) (w'.alloc (.cells cs.toArray ty)):=fun hbl h o ho=>by
  rcases bn.1 ho with rfl | ho
  ·exact⟨dD.new w' cs ty,fun k hk=>by have:k=w'.heap.size:=hk;have:=hbl.size;omega⟩
  ·exact h.below hb o ho
 match k,h with
 | [],h=>exact⟨aV h.1 hb,hm h.1 h.2⟩
 | [v],h=>exact⟨aV h.1 hb,hm h.1 h.2.1,Vs.below _ _ _ h.2.2 hb⟩
 | [_,v],⟨h1,r,va,e,hr,hm,hk,ho⟩=>exact⟨aV h1 hb,r,va,e,hr,gX _ hm,hk.below hb,bH ho hb⟩
theorem Ez.perm {W:World}{n:Nd}{b:Bool}(k:List Value)(Y Z:List Ob)(w':World)(hp:Y.Perm Z)(h:Ez W n b k Y w'):Ez W n b k Z w':=by
 match k,h with
 | [],h=>exact⟨h.1,fun o ho=>h.2 o (hp.mem_iff.2 ho)⟩
 | [v],h=>exact⟨h.1,fun o ho=>h.2.1 o (hp.mem_iff.2 ho),h.2.2⟩
 | [_,v],⟨h1,r,va,e,hr,hm,hk,ho⟩=>exact⟨h1,r,va,e,hr,hp.mem_iff.1 hm,hk,ho⟩
theorem LW {r r':Nat}{cs:List Value}{t:TypeId}(h:bk r cs t=bk r' cs t):r=r':=by
 have h1:=congrFun (bW Ob.F h) r
 have h2:(r=r)=(r=r'):=h1
 exact h2 ▸ rfl
theorem Ez.store {W w:World}{n:Nd}{b:Bool}{r:Nat}{va:Option Addr}{vc:Nat}{Y:List Ob}(h:Ez W n b [.tuple #[.agg (jd { n with av:=.slice va n.attrs.length vc }).toArray,.bool b]] Y w)(hr:bk r (jd jV) 62∈Y) :
  dD w r (jd jV) 62∧Ez W n b [undef,.tuple #[.agg (jd { n with av:=.slice va n.attrs.length vc }).toArray,.bool b]] Y (UT w r (.int .i64 n.kind) (dA n.name) (.slice va n.attrs.length vc) (dA n.data) (.int .i64 n.parent) (.int .i64 n.first) (.int .i64 n.last) (.int .i64 n.prev) (.int .i64 n.next)):=by
 obtain⟨h1,h2,h3⟩:=h
 obtain⟨h4,h5⟩:=h2 _ hr
 have h4:dD w r (jd jV) 62:=h4
 have hrW:W.heap.size≤r:=h5 r rfl
 obtain⟨k1,k2⟩:=Ui h4 rfl (.int .i64 n.kind) (dA n.name) (.slice va n.attrs.length vc) (dA n.data) (.int .i64 n.parent) (.int .i64 n.first) (.int .i64 n.last) (.int .i64 n.prev) (.int .i64 n.next)
 have hO:=h3 _ rfl
 exact⟨h4,h1.trans (k2.below h1.size (fun k e=>by subst e;exact hrW)),r,_,rfl,hrW,hr,k1,MK hO k2 (fun q hq e=>by obtain⟨cur,hc⟩:=gJ hO hq;exact dw hc h4 (by decide) e)⟩
end Go.Proofs.YtfelmdkeaacfeaaGreatDoor.W
end
section
namespace Go.Proofs.YtfelmdkeaacfeaaGreatDoor.W
open Go.RowKit
theorem UW.below {w w':World}{A:Option Addr}{n:Nat}{f:Nat→ou}(h:UW w A n f)(hb:Below w.heap.size w w'):UW w' A n f:=fun hn=>by
 obtain⟨b,off,e,hl,hc⟩:=h hn
 refine⟨b,off,e,aO hl hb.size,fun j hj=>?_⟩
 obtain⟨h0,h1,h2,h3,h4,h5,h6,h7⟩:=hc j hj
 exact⟨aU hb h0,aU hb h1,aU hb h2,aU hb h3,aU hb h4,aU hb h5,aU hb h6,aU hb h7⟩
theorem ou.In.ok {o:ou}(h:o.In)(h1:o.s.length≤40∧o.t.length≤40):o.Ok:=⟨h.k,h.a,h.b,h.c,h1.1,h1.2,h.n,h.kk⟩
def Wj (w:World)(g:Nat)(i:Nat)(wr:World):Prop :=
 ∃R Q hv sv fv nv S K d X σ,All w.heap.size w (kK g R Q hv (iZ S σ (ms X)) S sv fv nv X ++ []) wr∧CX True (fun _=>False) i 0 S K d (ms X) σ
def VZ (w:World)(g n:Nat)(iv:Value)(wr:World):Prop:=∃i:Nat,i≤n∧iv=.int .i64 (i:Int)∧Wj w g i wr
end Go.Proofs.YtfelmdkeaacfeaaGreatDoor.W
end
section
namespace Go.Proofs.YtfelmdkeaacfeaaGreatDoor.W
open Go.RowKit
theorem Si (s:List UInt8)(a:ByteArray)(hs:s.length≤1000)(hv:Lib.validD s=true)(w:World)(hT:Laid w):Calls Tryz.prog 132 #[.agg #[.string a,.string ⟨s.toArray⟩]] w fun e w'=>e=.returned (.bool false)∧Below w.heap.size w w':=by
 have HL:=ae (fun wx=>lW ⟨s.toArray⟩ (by rw [Gl];omega) wx)
 have hd:decide (1048576 < (⟨s.toArray⟩:ByteArray).size)=false:=by rw [Gl];simp;omega
 have k1:=dD.new w [.string a,.string ⟨s.toArray⟩] 91
 have hb1:=(ak w.heap.size w).alloc (au _) (.cells #[.string a,.string ⟨s.toArray⟩] 91)
 have HV:=ae (rC s (w.alloc (.cells #[.string a,.string ⟨s.toArray⟩] 91)) (by omega) (hT.below hb1))
 rw [hv] at HV
 have c1:=k1.cell 1
 simp only [fQ,fP] at c1
 clear hT
 go_enter Tryz.func132,Tryz.ntmps132
 go_wp2_with fail
 refine HV.out.mono ?_
 rintro e w2 ⟨rfl,hb2⟩
 have c1:=(dD.below k1 hb2).cell 1
 simp only [fQ,fP] at c1
 have HB:=ae (aV hb1 hb2)
 clear hb1 hb2 k1
 go_wp2_with fail
 refine(HL.out _).mono ?_
 rintro e w3 ⟨rfl,rfl⟩
 rw [hd]
 go_wp2_with fail
 go_ret
 exact⟨rfl,HB.out⟩
theorem Qj {B:Nat}{w:World}{v:Value}{l:List (List UInt8×List UInt8)}(h:jA B w v l)(hl:l.length≤1000)(has:∀a∈l,a.2.length≤1000∧Lib.validD a.2=true)(hT:Laid w) :
  Calls Tryz.prog 103 #[v,.func (.func 132) #[] #[]] w fun e w'=>e=.returned (.int .i64 (-1))∧Below w.heap.size w w':=by
 obtain⟨va,vc,rfl,hcs⟩:=h
 have HC:=ae hcs
 have HA:=ae has
 have HTl:=ae hT
 clear hcs has hT
 go_enter Tryz.func103,Tryz.ntmps103
 go_wp2_with fail
 go_loopw [8] (fun iv wr=>∃k:Nat,k≤l.length∧iv=.int .i64 (k:Int)∧Below w.heap.size w wr) (fun iv _=>l.length - iW iv)
 case atStart=>exact⟨0,aZ _,rfl,ak _ _⟩
 case round =>
  obtain⟨k,hk,rfl,hB⟩:=hrel
  by_cases hkl:k < l.length
  ·obtain⟨y,hy⟩:∃y,l[k]? = some y:=⟨_,ay hkl⟩
   rcases HC.out with rfl | ⟨vg,cur,rfl,_,hgg,hcc⟩
   ·simp at hkl
   have hgl:=gp hgg
   have q0:wr.cell? ⟨vg,k*2,none⟩=some (dA y.1):=by
    rw [hB.cell (p:=⟨vg,k*2,none⟩) hgl,show k*2=2*k by omega]
    rw [iQ hgg]
    exact(hcc k y hy).1
   have q1:wr.cell? ⟨vg,k*2+1,none⟩=some (dA y.2):=by
    rw [hB.cell (p:=⟨vg,k*2+1,none⟩) hgl,show k*2+1=2*k+1 by omega]
    rw [iQ hgg]
    exact(hcc k y hy).2
   have HP1:=ae (Si y.2 ⟨y.1.toArray⟩ (HA.out y (ah hy)).1 (HA.out y (ah hy)).2 wr (HTl.out.below hB))
   clear hy hgg hcc
   simp only [dA] at q0 q1
   go_wp2_with fail
   refine HP1.out.mono ?_
   rintro e w2 ⟨rfl,hb2⟩
   go_wp2_with fail
   exact⟨⟨k+1,by omega,by go_num,hB.trans (hb2.mono hB.size)⟩,by simp only [iW];omega⟩
  ·go_wp2_with fail
   go_ret
   exact⟨rfl,hB⟩
theorem JF {B:Nat}{w:World}{v:Value}{l:List (List UInt8×List UInt8)}(h:jA B w v l)(hl:l.length≤1000)(has:∀a∈l,a.2.length≤1000∧Lib.validD a.2=true)(hT:Laid w) :
  Calls Tryz.prog 88 #[v,.func (.func 132) #[] #[]] w fun e w'=>e=.returned (.bool false)∧Below w.heap.size w w':=by
 have H:=ae (Qj h hl has hT)
 clear h hT
 go_enter Tryz.func88,Tryz.ntmps88
 go_wp2_with fail
 refine H.out.mono ?_
 rintro e w' ⟨rfl,hw⟩
 go_wp2_with fail
 go_ret
 exact⟨rfl,hw⟩
theorem N9 {al:List jR}(h:∀a∈al,headB a.1=true)(hn:(al.map (·.1)).Nodup):jL al=true:=by
 unfold jL
 rw [aH,dX]
 exact⟨h,dZ hn⟩
theorem QP (al:List jR)(hal:al.length≤100)(has:∀a∈al,a.1.length≤1000∧a.2.length≤1000){B:Nat}(v:Value)(w:World)(hT:Laid w)(hv:jA B w v al) :
  Calls Tryz.prog 87 #[v] w fun e w'=>e=.returned (.bool (jL al))∧Below w.heap.size w w':=by
 have hmm:=@run_makeMap Tryz.prog
 have HHd:=ae (fun(a:jR) (ha:a∈al) wx (hx:Below w.heap.size w wx)=>yC a.1 (by have:=(has a ha).1;omega) wx (hT.below hx))
 have HSz:=ae (fun(a:jR) (ha:a∈al)=>(show(⟨a.1.toArray⟩:ByteArray).size≤maxLen from by have:=(has a ha).1;unfold maxLen;rw [Gl];omega))
 obtain⟨va0,vc0,rfl,hcs⟩:=id hv
 have HVc:=ae (fun(j:Nat) (y:jR) (hy:al[j]? = some y) wx (hb:Below w.heap.size w wx)=>(show ∃ga,va0=some ⟨ga,0,none⟩∧ga < w.heap.size∧wx.cell? ⟨ga,j*2,none⟩=some (.string ⟨y.1.toArray⟩)∧wx.cell? ⟨ga,j*2+1,none⟩=some (.string ⟨y.2.toArray⟩) from by
  rcases hcs with rfl | ⟨ga,cur,e,_,hg,hc⟩
  ·cases hy
  ·have hgl:=gp hg
   obtain⟨h1,h2⟩:=hc j y hy
   refine⟨ga,e,hgl,?_,?_⟩
   ·rw [hb.cell (p:=⟨ga,j*2,none⟩) hgl,show j*2=2*j by omega,iQ hg];exact h1
   ·rw [hb.cell (p:=⟨ga,j*2+1,none⟩) hgl,show j*2+1=2*j+1 by omega,iQ hg];exact h2))
 clear hv has hT hcs
 go_enter Tryz.func87,Tryz.ntmps87
 go_wp2_with fail
 go_loopw [9] (fun iv wr=>V6 w al iv wr) (fun iv _=>al.length - iW iv)
 case atStart=>exact⟨0,.map [],by omega,rfl,fun j y hj=>absurd hj (by omega),World.ownsMap_made _ _ _ _,TJ.zero al,(ak _ _).alloc (au _) _⟩
 case round =>
  obtain⟨i,D,hi,rfl,hnm,hown,hnd,hbr⟩:=hrel
  have HNm:=ae hnm
  have HOr:=ae hown
  have HBr:=ae hbr
  have HNd:=ae hnd
  clear hnm hown hnd hbr
  by_cases hil:i < al.length
  ·obtain⟨y,hy⟩:∃y,al[i]? = some y:=⟨_,ay hil⟩
   have hym:=ah hy
   obtain⟨ga,rfl,hga,cn,cv⟩:=HVc.out i y hy _ HBr.out
   have HY:=ae hy
   have HYm:=ae hym
   clear hy hym
   go_wp2_with fail
   have hb1:Below wr.heap.size wr (wr.alloc (.cells #[.string ⟨y.1.toArray⟩,.string ⟨y.2.toArray⟩] 91)):=(ak _ _).alloc (au _) _
   have hbx:=aV HBr.out hb1
   have k1:=dD.new wr [.string ⟨y.1.toArray⟩,.string ⟨y.2.toArray⟩] 91
   refine(HHd.out y HYm.out _ hbx).mono ?_
   rintro e w4 ⟨rfl,hb4⟩
   have HB4:=ae (aV hbx hb4)
   have k4:=dD.below k1 hb4
   have HO4:=ae (pM (pM HOr.out hb1) hb4)
   have hne:wr.heap.size≠w.heap.size:=by have:=HOr.out.lt;omega
   clear hb4 cn cv HOr HBr hb1 hbx k1
   have c0:=k4.cell 0
   simp only [List.getElem?_cons_zero] at c0
   have K4:=ae k4
   clear k4
   have hsz:=HSz.out y HYm.out
   cases hhd:headB y.1
   ·have HN:=ae (xY HY.out hhd)
    clear hhd
    go_wp2_with fail
    go_ret
    exact⟨by rw [HN.out];rfl,HB4.out⟩
   have HHx:=ae hhd
   clear hhd
   obtain⟨c,hrun,hat⟩:=BB HO4.out ⟨y.1.toArray⟩ hsz
   have hat2:=HNd.out.2 y.1
   rw [show(⟨y.1.toArray⟩:ByteArray).data.toList=y.1 from rfl] at hat
   rw [hat] at hat2
   cases c
   ·obtain⟨w5,hst,ho5,hg5⟩:=Bf HO4.out (by omega) ⟨y.1.toArray⟩ hsz
    have HAt:=ae hat2
    have HO5:=ae ho5
    have HB5:=ae (show Below w.heap.size w w5 from⟨hg5.os.trans HB4.out.os,hg5.tape.trans HB4.out.tape,hg5.output.trans HB4.out.output,by have:=HB4.out.size;have:=hg5.size;omega,fun k hk=>(hg5.block k (by have:=HB4.out.size;omega) (by simp;omega)).trans (HB4.out.block k hk)⟩)
    have c5:w5.cell? ⟨wr.heap.size,0,none⟩=_:=(K4.out.kept (hg5.block _ K4.out.lt (by simpa using hne))).cell 0
    simp only [List.getElem?_cons_zero] at c5
    clear hat hat2 ho5 hg5
    go_wp2_with fail
    refine⟨⟨i+1,_,by omega,by simp,?_,HO5.out,HNd.out.put HY.out,HB5.out⟩,by simp only [iW];omega⟩
    intro j z hj hz
    by_cases e:j=i
    ·subst e
     rw [HY.out] at hz;cases hz
     refine⟨HHx.out,fun k z hk hz e=>?_⟩
     have:=HAt.out
     simp only [DataW.lit.injEq,Lit.bool.injEq] at this
     have hm:y.1∈(al.take j).map (·.1):=bC.2 ⟨z,ah (by rw [eX,aC hk];exact hz),e⟩
     exact of_decide_eq_false this.symm hm
    ·exact HNm.out j z (by omega) hz
   ·have HAt:=ae hat2
    clear hat hat2
    go_wp2_with fail
    go_ret
    have hm:y.1∈(al.take i).map (·.1):=by
     have:=HAt.out
     simp only [DataW.lit.injEq,Lit.bool.injEq] at this
     exact tq this.symm
    obtain⟨z,hz,hzy⟩:=bC.1 hm
    obtain⟨k,hk⟩:=aI.1 hz
    rw [eX] at hk
    by_cases hki:k < i
    ·rw [aC hki] at hk
     exact⟨by rw [xX HY.out hk hki hzy];rfl,HB4.out⟩
    ·rw [ax hki] at hk;cases hk
  ·obtain rfl:i=al.length:=by omega
   have hn:=xW HNm.out
   go_wp2_with fail
   go_ret
   exact⟨by rw [hn];rfl,HBr.out⟩
theorem LG {B R g cap c:Nat}{S:Tr}{fv:Value}{K:Nat→List Nat}{d:Nat→Nat}{w:World}(T:iP c S K d)(h:fZ B R S (.slice (some ⟨g,0,none⟩) S.slots.length cap) fv w)(hT:Laid w)(hc:c≤600)(i:Nat)(n:Nd)(hi:S.at i=some n) :
  Calls Tryz.prog 117 #[.pointer (some (na g i))] w fun e w'=>e=.returned (.bool true)∧Below w.heap.size w w':=by
 have hok:=T.nd i n hi
 have hfm:=T.J4 i n hi
 have hnode:=T.lk.node i n hi
 obtain⟨nk,nn,nav,nal,nda,np,nf,nl,npv,nx⟩:=n
 have hAt:=h.attrs i _ (dN hi)
 obtain⟨av,acap,hav,_⟩:=id hAt
 simp only [] at hav
 subst hav
 have HS:=ae (fun wx (hb:Below w.heap.size w wx)=>(show wx.cell? ⟨g,i*10+1,none⟩=some (.int .i64 nk)∧wx.cell? ⟨g,i*10+2,none⟩=some (.string ⟨nn.toArray⟩)∧wx.cell? ⟨g,i*10+3,none⟩=some (.slice av nal.length acap)∧wx.cell? ⟨g,i*10+4,none⟩=some (.string ⟨nda.toArray⟩) ∧
  wx.cell? ⟨g,i*10+5,none⟩=some (.int .i64 np)∧wx.cell? ⟨g,i*10+6,none⟩=some (.int .i64 nf)∧wx.cell? ⟨g,i*10+7,none⟩=some (.int .i64 nl) from
  ⟨dm (h.below hb) (dN hi) 1 (by omega),dm (h.below hb) (dN hi) 2 (by omega),dm (h.below hb) (dN hi) 3 (by omega),dm (h.below hb) (dN hi) 4 (by omega),dm (h.below hb) (dN hi) 5 (by omega),dm (h.below hb) (dN hi) 6 (by omega),dm (h.below hb) (dN hi) 7 (by omega)⟩))
 obtain⟨q1,q2,q3,q4,q5,q6,q7⟩:=HS.out w (ak _ _)
 have HA:=ae hAt
 have HTl:=ae hT
 have HO:=ae hok
 have hn2:=hok.nl
 have hal:=hok.al
 simp only [] at hn2 hal
 unfold na
 rcases hok.kd with e | e | e | e
 ·have e:nk=1:=e
  subst e
  obtain⟨d1,d2,d3⟩:=hok.dc rfl
  simp only [] at d1 d2 d3
  subst d1 d2 d3
  have hp:np=0:=by
   obtain⟨n0,h1,h2⟩:=T.doc
   have hi0:i=0:=by
    by_cases hz:i=0
    ·exact hz
    ·exact absurd rfl (T.other i _ hi hz)
   subst hi0
   exact(T.lk.top 0 _ hi T.vN).1
  subst hp
  clear hok hfm hnode hT hAt T h hi
  go_enter Tryz.func117,Tryz.ntmps117
  go_wp2_with fail
  go_ret
  exact⟨rfl,ak _ _⟩
 ·have e:nk=2:=e
  subst e
  obtain⟨d1,d2⟩:=hok.el rfl
  simp only [] at d1 d2
  subst d1
  have hat:∀a∈nal,headB a.1=true∧Lib.validD a.2=true∧a.1.length≤200∧a.2.length≤200:=hok.at_
  have HE:=ae (xN nn (by omega) w hT)
  rw [d2] at HE
  have HN:=ae (fun wx (hb:Below w.heap.size w wx)=>QP nal (by omega) (fun a ha=>by have:=hat a ha;omega) (.slice av nal.length acap) wx (hT.below hb) (yB hAt hb))
  rw [N9 (fun a ha=>(hat a ha).1) hok.nd] at HN
  have HC:=ae (fun wx (hb:Below w.heap.size w wx)=>JF (l:=nal) (yB hAt hb) (by omega) (fun a ha=>⟨by have:=hat a ha;omega,(hat a ha).2.1⟩) (hT.below hb))
  simp only [] at HC
  have d64:decide ((nal.length:Int)≤64)=true:=by simp;omega
  clear hok hfm hnode hT hAt T h hi hat d2
  go_enter Tryz.func117,Tryz.ntmps117
  go_wp2_with fail
  refine HE.out.mono ?_
  rintro e w2 ⟨rfl,hb2⟩
  obtain⟨q1,q2,q3,q4,q5,q6,q7⟩:=HS.out w2 hb2
  have HB2:=ae hb2
  clear hb2
  go_wp2_with fail
  refine(HN.out w2 HB2.out).mono ?_
  rintro e w3 ⟨rfl,hb3⟩
  have HB3:=ae (aV HB2.out hb3)
  obtain⟨q1,q2,q3,q4,q5,q6,q7⟩:=HS.out w3 HB3.out
  clear hb3
  go_wp2_with fail
  refine(HC.out w3 HB3.out).mono ?_
  rintro e w4 ⟨rfl,hb4⟩
  have HB4:=ae (aV HB3.out hb4)
  clear hb4
  go_wp2_with fail
  go_ret
  exact⟨rfl,HB4.out⟩
 ·have e:nk=3:=e
  subst e
  obtain⟨d1,d2,d3⟩:=hok.tx (.inl rfl)
  simp only [] at d1 d2 d3
  subst d1 d2
  have hdl:nda.length≤200*(c+1):=hok.dl
  have hk0:K i=[]:=by
   rcases hfm with e | e | ⟨e,_⟩
   ·exact e
   ·exact absurd (show(3:Int)=2 from e) (by decide)
   ·exact absurd (show(3:Int)=1 from e) (by decide)
  rw [hk0] at hnode
  have f1:nf=0:=hnode.1
  have f2:nl=0:=hnode.2
  clear hnode
  subst f1 f2
  have HV:=ae (rC nda w (by omega) hT)
  rw [d3] at HV
  have hd:decide (1048576 < (⟨nda.toArray⟩:ByteArray).size)=false:=by rw [Gl];simp;omega
  clear hok hfm hT hAt T h hi hk0 d3
  go_enter Tryz.func117,Tryz.ntmps117
  go_wp2_with fail
  refine HV.out.mono ?_
  rintro e w2 ⟨rfl,hb2⟩
  obtain⟨q1,q2,q3,q4,q5,q6,q7⟩:=HS.out w2 hb2
  have HB2:=ae hb2
  clear hb2
  go_wp2_with fail
  refine(lW ⟨nda.toArray⟩ (by rw [Gl];omega) _).mono ?_
  rintro e w3 ⟨rfl,rfl⟩
  rw [hd]
  go_wp2_with fail
  go_ret
  exact⟨rfl,HB2.out⟩
 ·have e:nk=4:=e
  subst e
  obtain⟨d1,d2,d3⟩:=hok.tx (.inr rfl)
  simp only [] at d1 d2 d3
  subst d1 d2
  have hdl:nda.length≤200*(c+1):=hok.dl
  have hk0:K i=[]:=by
   rcases hfm with e | e | ⟨e,_⟩
   ·exact e
   ·exact absurd (show(4:Int)=2 from e) (by decide)
   ·exact absurd (show(4:Int)=1 from e) (by decide)
  rw [hk0] at hnode
  have f1:nf=0:=hnode.1
  have f2:nl=0:=hnode.2
  clear hnode
  subst f1 f2
  have HV:=ae (rC nda w (by omega) hT)
  rw [d3] at HV
  have hd:decide (1048576 < (⟨nda.toArray⟩:ByteArray).size)=false:=by rw [Gl];simp;omega
  clear hok hfm hT hAt T h hi hk0 d3
  go_enter Tryz.func117,Tryz.ntmps117
  go_wp2_with fail
  refine HV.out.mono ?_
  rintro e w2 ⟨rfl,hb2⟩
  obtain⟨q1,q2,q3,q4,q5,q6,q7⟩:=HS.out w2 hb2
  have HB2:=ae hb2
  clear hb2
  go_wp2_with fail
  refine(lW ⟨nda.toArray⟩ (by rw [Gl];omega) _).mono ?_
  rintro e w3 ⟨rfl,rfl⟩
  rw [hd]
  go_wp2_with fail
  go_ret
  exact⟨rfl,HB2.out⟩
end Go.Proofs.YtfelmdkeaacfeaaGreatDoor.W
end
section
namespace Go.Proofs.YtfelmdkeaacfeaaGreatDoor.W
open Go.RowKit
attribute [local go_sem] Oper.semAt_some
theorem yx {w W:World}{p:Addr}{v:Value}(k:Agree w W)(h:w.cell? p=some v):W.cell? p=some v:=by
 have hl:=iG w p h
 have e:=k.2 p.block hl
 rw [← h]
 unfold World.cell?
 rw [e]
theorem Laid.agree {w W:World}(h:Laid w)(k:Agree w W):Laid W where
 tabs:=⟨fun c hc=>yx k (h.tabs.1 c hc),fun i hi=>⟨yx k (h.tabs.2 i hi).1,yx k (h.tabs.2 i hi).2⟩⟩
theorem NF {B R g cap:Nat}{S:Tr}{fv:Value}{K:Nat→List Nat}{d:Nat→Nat}(hL:Lk S K d)
  (HF:∀i n,S.at i=some n→∀wx,Laid wx→fZ B R S (.slice (some ⟨g,0,none⟩) S.slots.length cap) fv wx→Calls Tryz.prog 117 #[.pointer (some (na g i))] wx fun e w'=>e=.returned (.bool true)∧Below wx.heap.size wx w')
  (HM:∀p k np nk,k∈K p→S.at p=some np→S.at k=some nk→nU S K d p k np nk=true):∀(f i:Nat) (n:Nd),S.at i=some n→128 - d i=f→∀w,Laid w→fZ B R S (.slice (some ⟨g,0,none⟩) S.slots.length cap) fv w →
  Calls Tryz.prog 81 #[.pointer (some ⟨R,0,none⟩),.int .i64 (S.hd i),.int .i64 (d i:Int)] w fun e w'=>e=.returned (.tuple #[.int .i64 (wZ K (128 - d i) i:Int),.bool true])∧Below w.heap.size w w':=by
 intro f
 induction f using Nat.strongRecOn with
 | _ f ih =>
  intro i n hi hf w hLd h
  have HA:=ae (bV h (S.hd i) (hd_ok hL hi).1 (fV hL hi))
  have HFI:=ae (fun wx (hb:Below w.heap.size w wx)=>HF i n hi wx (hLd.below hb) (h.below hb))
  have HFM:=ae (fun wx (hb:Below w.heap.size w wx)=>LJ (h.below hb) hL i n hi)
  have HT:=ae h
  have HLd:=ae hLd
  clear hLd
  have HII:=ae hi
  have HIH:=ae ih
  have hkl:=lX hL i
  have hlow:=hL.low i
  have hst:=hL.Px i
  have hle:=hL.Kt (i:=i) (by rw [hi];rfl)
  rw [hst] at hle
  have HST:=ae hst
  have d0:decide ((128:Int) < (d i:Int))=false:=by simp;omega
  clear h ih hi hst
  go_enter Tryz.func81,Tryz.ntmps81
  go_wp2_with fail
  refine HA.out.mono ?_
  rintro e w2 ⟨rfl,hb2⟩
  go_wp2_with fail
  refine(HFI.out _ hb2).mono ?_
  rintro e w3 ⟨rfl,hb3⟩
  have hB3:=aV hb2 hb3
  go_wp2_with fail
  refine(HFM.out _ hB3).mono ?_
  rintro e w4 ⟨v,rfl,hown,hb4⟩
  have hB4:=aV hB3 hb4
  have hown':=iD hown hB3.size
  obtain⟨a,cp,rfl⟩:=bP hown'
  clear hown
  go_wp2_with fail
  go_loopw [10,34] (fun cv jv wr=>Wh w S K d i (.slice a (K i).length cp) cv jv wr) (fun _ jv _=>(K i).length - (intOf jv).toNat)
  case atStart=>exact⟨0,by omega,rfl,by simp,hown',hB4⟩
  case round =>
   obtain⟨j,hj,rfl,rfl,ho,hB⟩:=hrel
   by_cases hlt:j < (K i).length
   ·obtain⟨k,hk⟩:∃k,(K i)[j]? = some k:=⟨_,ay hlt⟩
    obtain⟨nk,hnk⟩:=hL.some hk
    obtain⟨gv,cp2,hv,hc⟩:=pO ho (x:=S.hd k) (by rw [bI,hk];rfl)
    have hkm:=ah hk
    have hdk:=hL.qc i k hkm
    have hlk:=hL.low k
    have hkle:=hL.Kt (i:=k) (by rw [hnk];rfl)
    have HH:=ae (HIH.out (128 - d k) (by omega) k nk hnk rfl wr (HLd.out.below hB) (HT.out.below hB))
    rw [show((d k:Nat):Int)=(d i:Int)+1 by omega] at HH
    have HMM:=ae (fun wx (hb:Below w.heap.size w wx)=>uk (HT.out.below hb) hL i k n nk HII.out hnk)
    rw [HM i k n nk hkm HII.out hnk] at HMM
    have htk:1+(((K i).take (j+1)).map fun k=>wZ K (128 - d k) k).sum=1+(((K i).take j).map fun k=>wZ K (128 - d k) k).sum+wZ K (128 - d k) k:=by
     rw [fJ,hk];simp;omega
    have hpre:(((K i).take j).map fun k=>wZ K (128 - d k) k).sum≤((K i).map fun k=>wZ K (128 - d k) k).sum:=by
     rw [Yc];exact IK _ _
    have hM:1+(((K i).take j).map fun k=>wZ K (128 - d k) k).sum≤1000001:=by omega
    have HTK:=ae htk
    have HO:=ae ho
    clear ho htk
    generalize 1+(((K i).take j).map fun k=>wZ K (128 - d k) k).sum=M at *
    generalize wZ K (128 - d k) k=H at *
    generalize S.hd k=hk1 at *
    generalize S.hd i=hi1 at *
    cases hv
    go_wp2_with fail
    refine HH.out.mono ?_
    rintro e w6 ⟨rfl,hb6⟩
    have hB6:=hB.trans (hb6.mono hB.size)
    have HO6:=ae (fH HO.out hb6)
    go_wp2_with fail
    refine(HMM.out _ hB6).mono ?_
    rintro e w7 ⟨rfl,hb7⟩
    have hB7:=hB6.trans (hb7.mono hB6.size)
    have HO7:=ae (fH HO6.out hb7)
    clear HO HO6
    go_wp2_with fail
    refine⟨⟨j+1,by omega,by go_num,?_,HO7.out,hB7⟩,by simp [intOf];omega⟩
    rw [HTK.out]
    go_num
   ·obtain rfl:j=(K i).length:=by omega
    rw [dE,← HST.out]
    clear ho
    go_wp2_with fail
    go_ret2
    exact⟨rfl,hB⟩
theorem NH {B R g cap r:Nat}{S:Tr}{fv:Value}{w:World}{K:Nat→List Nat}{d:Nat→Nat}{nr:Nd}(h:fZ B R S (.slice (some ⟨g,0,none⟩) S.slots.length cap) fv w)(hLd:Laid w)(hL:Lk S K d)
  (hroot:S.root=S.hd r)(hr:S.at r=some nr)(hrk:nr.kind=1)(hk:∀i n,S.at i=some n→i≠r→n.kind≠1)(hlive:S.live≤20000)
  (HF:∀i n,S.at i=some n→∀wx,Laid wx→fZ B R S (.slice (some ⟨g,0,none⟩) S.slots.length cap) fv wx→Calls Tryz.prog 117 #[.pointer (some (na g i))] wx fun e w'=>e=.returned (.bool true)∧Below wx.heap.size wx w')
  (HM:∀p k np nk,k∈K p→S.at p=some np→S.at k=some nk→nU S K d p k np nk=true) :
  Calls Tryz.prog 33 #[.pointer (some ⟨R,0,none⟩)] w fun e w'=>e=.returned (.bool true)∧Below w.heap.size w w':=by
 have HT:=ae (fun W (k:Agree w W)=>h.agree k)
 have HT0:=ae h
 have HL:=ae hL
 have HAT:=ae (fun W (k:Agree w W)=>bV (h.agree k) (S.hd r) (hd_ok hL hr).1 (fV hL hr))
 have HLN:=ae (fun W (k:Agree w W)=>len_any (h.agree k))
 have HW:=ae (fun(i:Nat) (n:Nd) (hi:S.at i=some n) (h0:n.parent=0) W (k:Agree w W)=>show Calls Tryz.prog 81 #[.pointer (some ⟨R,0,none⟩),.int .i64 (S.hd i),.int .i64 1] W (fun e w'=>e=.returned (.tuple #[.int .i64 (wZ K 127 i:Int),.bool true])∧Below W.heap.size W w') from by
  have h1:=hL.one i (by rw [hi];rfl) ((wH hL hi).1 h0)
  have:=NF hL HF HM _ i n hi rfl W (hLd.agree k) (h.agree k)
  rw [h1] at this
  exact this)
 have hRl:=h.blk.lt
 have HR5:=ae (fun W (k:Agree w W)=>((h.agree k).blk.cell 5).trans (show _=some (Value.int .i64 (S.hd r)) by rw [← hroot];rfl))
 have HK0:=ae (fun W (k:Agree w W)=>(bK (h.agree k) hr 0 (by omega)).trans (show _=some (Value.int .i64 1) by rw [← hrk];rfl))
 have HKN:=ae hk
 have HRT:=ae (show ∀n,S.at r=some n→n.kind=1 from fun n e=>by rw [hr] at e;cases e;exact hrk)
 have hfew:=hL.few
 clear h hL HF HM hroot hr hrk hk hLd
 refine(jP (n:=8)).1 ?_
 refine zZ Tryz.func33 rfl trivial ?_ rfl
 simp only [Tryz.ntmps33,gZ,List.length_cons,List.length_nil,Nat.reduceAdd,Nat.reduceSub,ji,Array.replicate_zero,jS,jE,List.nil_append,List.cons_append]
 gi_wp2_with fail
 have hB1:=((ak w.heap.size w).alloc (au _) (.cells #[.pointer (some ⟨R,0,none⟩)] 29)).alloc (by simp) (.cells #[.bool false] 4)
 have hx1:dD ((w.alloc (.cells #[.pointer (some ⟨R,0,none⟩)] 29)).alloc (.cells #[.bool false] 4)) w.heap.size [.pointer (some ⟨R,0,none⟩)] 29:=(dD.new w [_] _).alloc _
 have hy1:dD ((w.alloc (.cells #[.pointer (some ⟨R,0,none⟩)] 29)).alloc (.cells #[.bool false] 4)) (w.heap.size+1) [.bool false] 4:=by
  have:=dD.new (w.alloc (.cells #[.pointer (some ⟨R,0,none⟩)] 29)) [.bool false] 4
  rwa [show(w.alloc (.cells #[.pointer (some ⟨R,0,none⟩)] 29)).heap.size=w.heap.size+1 by simp] at this
 have HB1:=ae hB1
 have HX1:=ae hx1
 have HY1:=ae hy1
 clear hB1 hx1 hy1
 generalize (w.alloc (.cells #[.pointer (some ⟨R,0,none⟩)] 29)).alloc (.cells #[.bool false] 4)=W1 at *
 have HA1:=ae ((Agree.refl w).below HB1.out)
 have x0:=HX1.out.cell 0
 have x5:=HR5.out W1 HA1.out
 simp only [List.getElem?_cons_zero] at x0
 have xl:=HX1.out.lt
 have rl:R < W1.heap.size:=aO hRl HB1.out.size
 have y0:=fun x:dS (yM W1)=>(RowKit.Below.cell x.h (p:=⟨w.heap.size,0,none⟩) xl).trans x0
 have y1:=fun x:dS (yM W1)=>(RowKit.Below.cell x.h (p:=⟨R,5,none⟩) rl).trans x5
 have hne:Nonempty (dS (yM W1)):=⟨⟨W1,ak _ _⟩⟩
 clear x0 x5
 refine GN ⟨yM W1,fun _ _ w=>yM W1 w,fun _=>.pointer (some (na g r)),fun _ _=>undef,fun _=>[],fun _=>0⟩ 6 (by kernel_rfl) (by kernel_rfl) (fun _ _ _ h=>h) (fun _ _ w cs ty h=>RowKit.Below.alloc h h.size _) (fun _ _ _ _ _ h=>h) ((ak _ _).drew) ?_
 simp only [mD,mr,l9,lZ]
 repeat (first
  | (refine aN (by rfl) (by rfl) (fun K hK=>?_);go_big_quiet_step (fail);refine az ?_;refine hK.out _ ?_;clear hK K)
  | (refine aK (by rfl) ?_;simp only [Act.put,dL,dK,dJ]))
 refine dM (.pointer (some (na g r))) rfl (by rfl) (by rfl) (fun w=>by go_simp;exact⟨rfl,rfl⟩) ?_ ?_
 ·intro X w2 h2
  refine(HAT.out w2 (HA1.out.below h2)).mono ?_
  rintro e w3 ⟨rfl,hb⟩
  exact⟨rfl,jw h2 (hb.mono h2.size)⟩
 simp only [Act.put,dL,dK,dJ]
 repeat (first
  | (refine aN (by rfl) (by rfl) (fun K hK=>?_);go_big_quiet_step (fail);refine az ?_;refine hK.out _ ?_;clear hK K)
  | (refine aK (by rfl) ?_;simp only [Act.put,dL,dK,dJ]))
 refine eH ?_
 intro W2 hw2
 have hb2:Below W1.heap.size W1 W2:=hw2
 clear y0 y1 hne hw2
 have HA2:=ae (HA1.out.below hb2)
 have HB2:=ae (HB1.out.trans (hb2.mono HB1.out.size))
 have HX2:=ae (HX1.out.below hb2)
 have HY2:=ae (HY1.out.below hb2)
 clear HX1 HY1 HA1 HB1 hb2 HAT
 have k0:=HK0.out W2 HA2.out
 rw [Nat.add_zero] at k0
 have x0:=HX2.out.cell 0
 simp only [List.getElem?_cons_zero] at x0
 have d0:decide ((20000:Int) < (S.live:Int))=false:=by simp;omega
 gi_wp2_with fail
 refine⟨trivial,(jP.2 (HLN.out W2 HA2.out)).mono ?_⟩
 rintro e w3 ⟨rfl,hw⟩
 rw [hw]
 clear hw k0
 have xa:=fun o=>(fF W2 o ⟨w.heap.size,0,none⟩ HX2.out.lt).trans x0
 gi_wp2_with fail
 refine⟨trivial,(jP.2 (SQ R _)).mono ?_⟩
 rintro e w3 ⟨rfl,rfl⟩
 clear xa x0
 have hsz:((W2.alloc (.cells #[.int .i64 0] 3)).alloc (.cells #[.pointer (some ⟨R,0,none⟩)] 155)).heap.size=W2.heap.size+1+1:=by simp
 have hc0:dD ((W2.alloc (.cells #[.int .i64 0] 3)).alloc (.cells #[.pointer (some ⟨R,0,none⟩)] 155)) W2.heap.size [.int .i64 0] 3:=(dD.new W2 [_] _).alloc _
 have hbs:dD ((W2.alloc (.cells #[.int .i64 0] 3)).alloc (.cells #[.pointer (some ⟨R,0,none⟩)] 155)) (W2.heap.size+1) [.pointer (some ⟨R,0,none⟩)] 155:=by
  have:=dD.new (W2.alloc (.cells #[.int .i64 0] 3)) [.pointer (some ⟨R,0,none⟩)] 155
  rwa [show(W2.alloc (.cells #[.int .i64 0] 3)).heap.size=W2.heap.size+1 by simp] at this
 have hb3:Below W2.heap.size W2 ((W2.alloc (.cells #[.int .i64 0] 3)).alloc (.cells #[.pointer (some ⟨R,0,none⟩)] 155)):=((ak _ _).alloc (au _) _).alloc (by simp) _
 have HC0:=ae hc0
 have HBS:=ae hbs
 have HSZ:=ae hsz
 have HA3:=ae (HA2.out.below hb3)
 have HB3:=ae (HB2.out.trans (hb3.mono HB2.out.size))
 have HX3:=ae (HX2.out.below hb3)
 have HY3:=ae (HY2.out.below hb3)
 have hgc:w.heap.size+1 < W2.heap.size:=HY2.out.lt
 have hrs:(W2.alloc (.cells #[.int .i64 0] 3)).heap.size=W2.heap.size+1:=by simp
 rw [hrs]
 clear hc0 hbs hb3 HX2 HY2 HA2 HB2 hsz hrs
 generalize (W2.alloc (.cells #[.int .i64 0] 3)).alloc (.cells #[.pointer (some ⟨R,0,none⟩)] 155)=W0 at *
 generalize W2.heap.size=gc at *
 gi_wp2_with fail
 have hstop:=all_stops (n:=7) (F:=fun k=>k=gc) HT0.out HA3.out (by omega) HBS.out (fun k hlt=>by omega) (by omega)
 have hz:W0.heap.size=gc+1+1:=HSZ.out
 refine EG (fun x gn a=>Uc 35 36 5 6 (.int .i64 (S.hd x.1)) (UU (jh S x.1)) gn a) (fun x gn W=>dD W gn [.int .i64 (jh S x.1).kind,.string ⟨(jh S x.1).name.toArray⟩,(jh S x.1).av,.string ⟨(jh S x.1).data.toArray⟩,.int .i64 (jh S x.1).parent,.int .i64 (jh S x.1).first,.int .i64 (jh S x.1).last,.int .i64 (jh S x.1).prev,.int .i64 (jh S x.1).next] 62)
  (by omega) (gf:=115) (lb:=#[.pointer (some ⟨gc+1,0,none⟩)]) rfl (enters_of Tryz.func115 (by kernel_rfl) rfl) hstop zD Vf (fun _=>rfl)
  (fun pre W=>Below w.heap.size w W∧Q5 W0.heap.size (fun k=>k=gc) W0 W∧dD W gc [.int .i64 (cnt S K pre:Int)] 3)
  (fun _ _ _=>False)
  (fun pre W W' row hs hg hr=>⟨hs.1.grown hg hs.1.size (fun k e=>by have:=(hr k e).1;omega),zD hs.2.1 ⟨hg.size,fun k hk hf=>hg.block k (aO hk hs.2.1.1) (fun e=>by have:=(hr k e.symm).1;omega)⟩,Io hs.2.2 hg hr⟩)
  (fun _ _ _ _ _ hs _ _=>hs) ⟨HB3.out,⟨au _,fun _ _ _=>rfl⟩,HC0.out⟩ (fun x gn W W' row hs hg hr=>Io hs hg hr) ?assign ?body ?done ?stop
 case assign =>
  rintro l pre x W K' ⟨hb,hkp,hcb⟩ hK
  have hWs:=hkp.1
  have hK2:=hK W.heap.size (W.alloc (.cells #[.int .i64 (jh S x.1).kind,.string ⟨(jh S x.1).name.toArray⟩,(jh S x.1).av,.string ⟨(jh S x.1).data.toArray⟩,.int .i64 (jh S x.1).parent,.int .i64 (jh S x.1).first,.int .i64 (jh S x.1).last,.int .i64 (jh S x.1).prev,.int .i64 (jh S x.1).next] 62))
   ((pW ((ak _ _).alloc (au _) _)).from _) (wU hWs ((ak _ _).alloc (au _) _)) ⟨hb.alloc hb.size _,zD hkp (wU hWs ((ak _ _).alloc (au _) _)),hcb.alloc _⟩ (dD.new W [_,_,_,_,_,_,_,_,_] _)
  simp only [Uc,UU,dL,dK,dJ] at hK2
  have hav:∃a m c,(jh S x.1).av=.slice a m c:=by
   obtain⟨i,n,hn⟩:=x
   obtain⟨a,cp,e,_⟩:=HT0.out.attrs i n hn
   exact⟨a,_,cp,by rw [qF (nX hn),e]⟩
  obtain⟨nav,nal,nac,hav⟩:=hav
  rw [hav] at hK2
  have HK2:=ae hK2
  have HAV:=ae hav
  clear hK hK2 hstop hb hkp hcb hav
  simp only [Sj,UU,List.zip_toArray,List.zip_cons_cons,List.zip_nil_right,gZ,List.length_cons,List.length_nil,List.foldl_toArray',List.foldl_toArray,List.foldl_cons,List.foldl_nil,dL,dK,dJ,HAV.out]
  gi_wp2
  exact HK2.out
 case body =>
  rintro l pre ⟨i,n,hn⟩ gn W ⟨hb,hkp,hcb⟩ hbx hlt
  simp only [Uc,UU,dL,dK,dJ]
  have hnn:jh S i=n:=qF (nX hn)
  simp only [hnn] at hbx ⊢
  have hAg:Agree w W:=⟨hb.size,hb.block⟩
  have hWs:=hkp.1
  have bX:dD W w.heap.size _ _:=HX3.out.kept (hkp.2 _ (by omega) (by omega))
  have x0:=bX.cell 0
  have r5:=HR5.out W hAg
  have z0:=hbx.cell 0
  have z4:=hbx.cell 4
  have z7:=hbx.cell 7
  have z8:=hbx.cell 8
  have c0:=hcb.cell 0
  simp only [fP,fQ] at x0 z0 z4 z7 z8 c0
  have hcs:=QG S K pre ⟨i,n,hn⟩
  simp only at hcs
  have hcl:=cnt_le HL.out pre
  have hal:=JR HL.out (nX hn)
  have hpl:pre.length≤1000000:=by omega
  have hcl2:cnt S K pre≤1000000000000:=by omega
  have HC:=ae hcb
  have HBW:=ae hb
  have HKW:=ae hkp
  have HN:=ae hn
  clear hstop hb hkp hcb hbx bX hlt hcl hpl
  by_cases hir:i=r
  ·have hk1:n.kind=1:=HRT.out n (hir ▸ nX hn)
   rw [hk1] at z0
   subst hir
   by_cases h0:n.parent=0
   ·have HW1:=ae (HW.out i n (nX hn) h0 W hAg)
    obtain⟨_,hpv,hnx⟩:=HL.out.top i n (nX hn) ((wH HL.out (nX hn)).1 h0)
    rw [h0] at z4
    rw [hpv] at z7
    rw [hnx] at z8
    have ho:qY S K i=wZ K 127 i:=by unfold qY;rw [qF (nX hn),aC h0]
    rw [ho] at hcs hal
    have HCS:=ae hcs
    clear hcs ho h0 hpv hnx
    gi_wp2_with fail
    refine⟨trivial,(CallsIn.inRound l (jP.2 HW1.out)).mono ?_⟩
    rintro e w4 ⟨rfl,hb4⟩
    have c4:=aU hb4 c0
    have e7:=aU hb4 z7
    have e8:=aU hb4 z8
    have cf:=(HC.out.below hb4).free 0
    have HB4:=ae hb4
    have HC4:=ae ((HC.out.below hb4).set 0 (.int .i64 ((cnt S K pre:Int)+(wZ K 127 i:Int))))
    clear hb4 c0 z7 z8
    gi_wp2_with fail
    have hk4:Q5 W0.heap.size (fun k=>k=gc) W w4:=wU hWs HB4.out
    have hb9:Below w.heap.size w w4:=HBW.out.trans (HB4.out.mono HBW.out.size)
    refine⟨((pW HB4.out).trans (rq _ _ _)).from _,zD hk4 (CV ⟨gc,0,none⟩ _ rfl),hb9.setCell (p:=⟨gc,0,none⟩) (by show w.heap.size≤gc;omega) _,zD HKW.out (zD hk4 (CV ⟨gc,0,none⟩ _ rfl)),?_⟩
    rw [HCS.out]
    exact HC4.out
   ·have bp:(n.parent == 0)=false:=by simpa using h0
    have ho:qY S K i=0:=by unfold qY;rw [qF (nX hn),ax h0]
    rw [ho,Nat.add_zero] at hcs
    have HCS:=ae hcs
    clear hcs ho
    gi_wp2_with fail
    refine⟨KeepsFrom.refl _ _,⟨au _,fun _ _ _=>rfl⟩,HBW.out,HKW.out,?_⟩
    rw [HCS.out]
    exact HC.out
  ·have hk1:=HKN.out i n (nX hn) hir
   have bk:(n.kind == 1)=false:=by simpa using hk1
   by_cases h0:n.parent=0
   ·have HW1:=ae (HW.out i n (nX hn) h0 W hAg)
    obtain⟨_,hpv,hnx⟩:=HL.out.top i n (nX hn) ((wH HL.out (nX hn)).1 h0)
    rw [h0] at z4
    rw [hpv] at z7
    rw [hnx] at z8
    have ho:qY S K i=wZ K 127 i:=by unfold qY;rw [qF (nX hn),aC h0]
    rw [ho] at hcs hal
    have HCS:=ae hcs
    clear hcs ho h0 hpv hnx
    gi_wp2_with fail
    refine⟨trivial,(CallsIn.inRound l (jP.2 HW1.out)).mono ?_⟩
    rintro e w4 ⟨rfl,hb4⟩
    have c4:=aU hb4 c0
    have e7:=aU hb4 z7
    have e8:=aU hb4 z8
    have cf:=(HC.out.below hb4).free 0
    have HB4:=ae hb4
    have HC4:=ae ((HC.out.below hb4).set 0 (.int .i64 ((cnt S K pre:Int)+(wZ K 127 i:Int))))
    clear hb4 c0 z7 z8
    gi_wp2_with fail
    have hk4:Q5 W0.heap.size (fun k=>k=gc) W w4:=wU hWs HB4.out
    have hb9:Below w.heap.size w w4:=HBW.out.trans (HB4.out.mono HBW.out.size)
    refine⟨((pW HB4.out).trans (rq _ _ _)).from _,zD hk4 (CV ⟨gc,0,none⟩ _ rfl),hb9.setCell (p:=⟨gc,0,none⟩) (by show w.heap.size≤gc;omega) _,zD HKW.out (zD hk4 (CV ⟨gc,0,none⟩ _ rfl)),?_⟩
    rw [HCS.out]
    exact HC4.out
   ·have bp:(n.parent == 0)=false:=by simpa using h0
    have ho:qY S K i=0:=by unfold qY;rw [qF (nX hn),ax h0]
    rw [ho,Nat.add_zero] at hcs
    have HCS:=ae hcs
    clear hcs ho
    gi_wp2_with fail
    refine⟨KeepsFrom.refl _ _,⟨au _,fun _ _ _=>rfl⟩,HBW.out,HKW.out,?_⟩
    rw [HCS.out]
    exact HC.out
 case done =>
  rintro D xs W hD rfl ⟨hb,hkp,hcb⟩ hK
  rw [SE HL.out] at hcb
  have hz2:w.heap.size+1 < D:=by omega
  have hzc:gc < D:=by omega
  have hAg:Agree w W:=⟨hb.size,hb.block⟩
  have bX:dD W w.heap.size _ _:=HX3.out.kept (hkp.2 _ (by omega) (by omega))
  have bY:dD W (w.heap.size+1) _ _:=HY3.out.kept (hkp.2 _ (by omega) (by omega))
  have x0:=bX.cell 0
  have c0:=hcb.cell 0
  simp only [List.getElem?_cons_zero] at x0 c0
  have xl:=bX.lt
  have cl:=hcb.lt
  have y0:=fun x:dS (yM W)=>(RowKit.Below.cell x.h (p:=⟨w.heap.size,0,none⟩) xl).trans x0
  have y1:=fun x:dS (yM W)=>(RowKit.Below.cell x.h (p:=⟨gc,0,none⟩) cl).trans c0
  have hne:Nonempty (dS (yM W)):=⟨⟨W,ak _ _⟩⟩
  have HAg:=ae hAg
  have HBW:=ae hb
  have HBY:=ae bY
  have HK:=ae hK
  clear hstop hb hkp hcb bX bY x0 c0 hAg hK
  gi_wp2_with fail
  refine GN ⟨yM W,fun _ _ w=>yM W w,fun _=>.int .i64 (S.live:Int),fun _ _=>undef,fun _=>[],fun _=>0⟩ 6 (by kernel_rfl) (by kernel_rfl) (fun _ _ _ h=>h) (fun _ _ w cs ty h=>RowKit.Below.alloc h h.size _) (fun _ _ _ _ _ h=>h) ((ak _ _).drew) ?_
  simp only [mD,mr,l9,lZ]
  repeat (first
   | (refine aN (by rfl) (by rfl) (fun K hK=>?_);go_big_quiet_step (fail);refine az ?_;refine hK.out _ ?_;clear hK K)
   | (refine aK (by rfl) ?_;simp only [Act.put,dL,dK,dJ]))
  refine dM (.int .i64 (S.live:Int)) rfl (by rfl) (by rfl) (fun w=>by go_simp;exact⟨rfl,rfl⟩) ?_ ?_
  ·intro X w8 h8
   refine(HLN.out w8 (HAg.out.below h8)).mono ?_
   rintro e w9 ⟨rfl,rfl⟩
   exact⟨rfl,h8⟩
  simp only [Act.put,dL,dK,dJ]
  repeat (first
   | (refine aN (by rfl) (by rfl) (fun K hK=>?_);go_big_quiet_step (fail);refine az ?_;refine hK.out _ ?_;clear hK K)
   | (refine aK (by rfl) ?_;simp only [Act.put,dL,dK,dJ]))
  refine eH ?_
  intro w8 hw8
  have hb8:Below W.heap.size W w8:=hw8
  have bY8:=HBY.out.below hb8
  have r0:=bY8.cell 0
  have rf:=bY8.free 0
  simp only [List.getElem?_cons_zero] at r0
  have HB8:=ae (HBW.out.trans (hb8.mono HBW.out.size))
  have HK8:=ae ((pW hb8).same D _ HK.out rfl)
  have HY8:=ae (bY8.set 0 (.bool true))
  clear y0 y1 hne hw8 hb8 bY8
  gi_wp2_with fail
  have hk1:=(rq w8 ⟨w.heap.size+1,0,none⟩ (.bool true)).same D _ HK8.out rfl
  refine DL hk1 ?_
  have c5:=HY8.out.cell 0
  simp only [List.set_cons_zero,List.getElem?_cons_zero] at c5
  have c6:=cell_kept c5 (grownBy_putObj' _ D (.deferred none)) (fun r e=>by cases e;exact⟨_,hk1,rfl⟩)
  have hd1:=(aX.1 hk1).1
  refine⟨.bool true,?_,rfl,Gm _ (HB8.out.setCell (p:=⟨w.heap.size+1,0,none⟩) (by show _≤w.heap.size+1;omega) _) (by omega) hd1⟩
  simp [results,Tryz.f33,go_sem,c6]
 case stop=>rintro D c pre W hD _ hf _;exact hf.elim
end Go.Proofs.YtfelmdkeaacfeaaGreatDoor.W
end
section
namespace Go.Proofs.YtfelmdkeaacfeaaGreatDoor.W
open Go.RowKit
theorem J6 {B R g cap c:Nat}{S:Tr}{fv:Value}{w:World}{K:Nat→List Nat}{d:Nat→Nat}(T:iP c S K d)(h:fZ B R S (.slice (some ⟨g,0,none⟩) S.slots.length cap) fv w)(hLd:Laid w)(hc:c≤600)(hlive:S.live≤20000) :
  Calls Tryz.prog 33 #[.pointer (some ⟨R,0,none⟩)] w fun e w'=>e=.returned (.bool true)∧Below w.heap.size w w':=by
 obtain⟨n0,h0,hk0⟩:=T.doc
 exact NH h hLd T.lk T.root h0 hk0 (fun i n hi hne=>T.other i n hi hne) hlive
  (fun i n hi wx hl hx=>LG T hx hl hc i n hi) (fun p k np nk hk hp hn=>T.may hk hp hn)
end Go.Proofs.YtfelmdkeaacfeaaGreatDoor.W
end
