/- Texts joined: Mmak Mnew McpP. -/
import Derived.Test.YtfelmdkeaacfeaaGreatDoorTB1
import Derived.Test.YtfelmdkeaacfeaaGreatDoorTB17
import Derived.LoopTactic
import Derived.BigQuiet
import Derived.Test.YtfelmdkeaacfeaaGreatDoorTB16
set_option maxRecDepth 100000
set_option maxHeartbeats 40000000
set_option linter.unusedVariables false
set_option linter.unusedSimpArgs false
section
namespace Go.Proofs.YtfelmdkeaacfeaaGreatDoor.W
open Go.RowKit
theorem VI:ET Tryz.prog 82 81 7 104:=ET.mk' (z:=.agg #[.int .i64 0,.string ⟨#[]⟩,.slice none 0 0,.string ⟨#[]⟩,.int .i64 0,.slice none 0 0,.bool false]) Tryz.underlying82 (by kernel_rfl) rfl (by omega)
theorem He {Q:Nat}{nv nv':Value}{X:List MX}{w w':World}(h:jC Q nv X w)(x:MX)(hc:dU (fun k=>k=Q∨nv.ownBlock=some k) w w')(hb:dD w' Q [nv'] 84)(hr:Own w' 81 7 nv' (X.length+1) (rows qZ X ++ qZ x))
  (hnv:nv'.ownBlock=nv.ownBlock∨∀b,nv'.ownBlock=some b→w.heap.size≤b)(ha:Own w' 92 2 x.av x.m.attrs.length (cu x.m.attrs))(hk:Own w' 3 1 x.kv x.m.kids.length (kC x.m.kids))(fa:∀b,x.av.ownBlock=some b→w.heap.size≤b)(fk:∀b,x.kv.ownBlock=some b→w.heap.size≤b) :
  fU Q nv X w nv' (X ++ [x]) w':=by
 refine⟨h.snoc x hc hb hr ha hk (fun b hb' y hy e=>?_) (fun b hb' y hy e=>?_),hc.mono (fun k _ hk=>?_),fun k hF=>?_⟩
 ·have:=fa b hb';have:=jy (h.W.sF y hy) e;omega
 ·have:=fk b hb';have:=jy (h.W.kid y hy) e;omega
 ·rcases hk with e | e
  ·exact .inl e
  ·exact .inr (.inl e)
 ·rcases hF with rfl | hF | ⟨y,hy,hF⟩
  ·exact .inl (.inl rfl)
  ·rcases hnv with e | e
   ·exact .inl (.inr (.inl (e ▸ hF)))
   ·exact .inr (e k hF)
  ·rcases cZ.1 hy with hy | hy
   ·exact .inl (.inr (.inr ⟨y,hy,hF⟩))
   ·simp at hy;subst hy
    rcases hF with hF | hF
    ·exact .inr (fa k hF)
    ·exact .inr (fk k hF)
def jL (al:List jR):Bool:=al.all (fun a=>headB a.1) && decide ((al.map (·.1)).Nodup)
def kD (kind:Int)(name:List UInt8)(attrs:List jR)(data:List UInt8):MN:=⟨kind,name,attrs,data,none,[],false⟩
inductive Cf (M:List MN) (kind:Int) (name data:List UInt8) (al:List jR):List MN→Int→Prop
 | arg (h:kind=2) (hn:(uB name && jL al)=false):Cf M kind name data al M 1
 | el (h:kind=2) (hn:(uB name && jL al)=true):Cf M kind name data al (M ++ [kD kind name (al.map fun a=>(a.1,ik a.2)) []]) 0
 | tx (h:kind≠2):Cf M kind name data al (M ++ [kD kind [] [] (ik data)]) 0
theorem mM {w:World}{r:Nat}{a:Int}{b:ByteArray}{av:Value}{c:ByteArray}{d:Int}{kv:Value}{e:Bool}(h:dD w r [.int .i64 a,.string b,av,.string c,.int .i64 d,kv,.bool e] 81) :
  (w.cell? ⟨r,0,none⟩=some (.int .i64 a)∧w.cell? ⟨r,1,none⟩=some (.string b)∧w.cell? ⟨r,2,none⟩=some av∧w.cell? ⟨r,3,none⟩=some (.string c)∧w.cell? ⟨r,4,none⟩=some (.int .i64 d)∧w.cell? ⟨r,5,none⟩=some kv∧w.cell? ⟨r,6,none⟩=some (.bool e))∧∀j,w.frozen? ⟨r,j,none⟩=false :=
 ⟨⟨h.cell 0,h.cell 1,h.cell 2,h.cell 3,h.cell 4,h.cell 5,h.cell 6⟩,h.free⟩
theorem KZ {x:MX}(ha:∃a n c,x.av=.slice a n c)(hk:∃a n c,x.kv=.slice a n c):∀u∈qZ x,u.oneCell'=true:=by
 obtain⟨a,n,c,e⟩:=ha
 obtain⟨a',n',c',e'⟩:=hk
 intro u hu
 simp only [qZ,e,e',bn,iH,rP] at hu
 rcases hu with rfl | rfl | rfl | rfl | rfl | rfl | rfl <;> rfl
def Nz (Q g cap:Nat)(X:List MX)(w:World)(kind:Int)(name data:List UInt8)(al:List jR)(e:Ending)(w':World):Prop :=
 ∃X' g' cap' en,Cf (ms X) kind name data al (ms X') en∧e=.returned (.int .i64 en)∧fU Q (.slice (some ⟨g,0,none⟩) X.length cap) X w (.slice (some ⟨g',0,none⟩) X'.length cap') X' w'
theorem PW {Q g cap:Nat}{X:List MX}{w:World}(h:jC Q (.slice (some ⟨g,0,none⟩) X.length cap) X w)(hX:X.length≤100000)(kind:Int)(hk:kind≠2)(hk0:0≤kind)(hk1:kind≤100)(name data:List UInt8)(hd:data.length≤1000)(v:Value)(al:List jR) :
  Calls Tryz.prog 41 #[.pointer (some ⟨Q,0,none⟩),.int .i64 kind,dA name,dA data,v] w (Nz Q g cap X w kind name data al):=by
 have H0:=ae h
 have HRp:=ae (fun wx=>pU data wx (by omega))
 have HR:=ae (Cf.tx (M:=ms X) (name:=name) (data:=data) (al:=al) hk)
 have hb:(kind == 2)=false:=by simpa using hk
 have lq:=h.W.blk.lt
 unfold dA at *
 clear h
 go_enter Tryz.func41,Tryz.ntmps41
 go_wp2_with fail
 have k1:dD (w.alloc (.cells #[.int .i64 kind,.string ⟨#[]⟩,.slice none 0 0,.string ⟨#[]⟩,.int .i64 (-1),.slice none 0 0,.bool false] 81)) w.heap.size [.int .i64 kind,.string ⟨#[]⟩,.slice none 0 0,.string ⟨#[]⟩,.int .i64 (-1),.slice none 0 0,.bool false] 81:=dD.new w _ _
 have hb1:Below w.heap.size w (w.alloc (.cells #[.int .i64 kind,.string ⟨#[]⟩,.slice none 0 0,.string ⟨#[]⟩,.int .i64 (-1),.slice none 0 0,.bool false] 81)):=(ak _ _).alloc (au _) _
 refine(HRp.out _).mono ?_
 rintro e w2 ⟨rfl,hb2⟩
 have hB2:=aV hb1 hb2
 have k2:=k1.below hb2
 generalize hr0:w.heap.size=r at *
 generalize ik data=dat at *
 obtain⟨⟨b0,b1,b2,b3,b4,b5,b6⟩,zf⟩:=mM k2
 have H2:jC Q (.slice (some ⟨g,0,none⟩) X.length cap) X w2:=H0.out.below (by rw [hr0];exact hB2)
 have HH2:=ae H2
 have HK2:=ae k2
 have HB2:=ae hB2
 have hrl2:=k2.lt
 clear k1 hb1 hb2 hB2 k2
 go_upto_region 18 with fail
 have k3:=HK2.out.set 3 (.string ⟨dat.toArray⟩)
 simp only [List.set_cons_succ,List.set_cons_zero] at k3
 have h3:jC Q (.slice (some ⟨g,0,none⟩) X.length cap) X (w2.setCell ⟨r,3,none⟩ (.string ⟨dat.toArray⟩)):=(ui Q (.slice (some ⟨g,0,none⟩) X.length cap) X).loc w2 _ H2 (fun k' hk'=>aF _ _ _ _ (fun e=>by
  have:=(ui Q (.slice (some ⟨g,0,none⟩) X.length cap) X).here w H0.out k' hk'
  rw [show k'=r from e] at this;omega))
 have hch3:dU (fun k=>k=r) w2 (w2.setCell ⟨r,3,none⟩ (.string ⟨dat.toArray⟩)):=(dU.refl (fun k=>k=r) w2).setCell ⟨r,3,none⟩ (fun _=>(rfl:r=r)) _
 have hC3:dU (fun k=>k=Q∨(Value.slice (some ⟨g,0,none⟩) X.length cap).ownBlock=some k) w (w2.setCell ⟨r,3,none⟩ (.string ⟨dat.toArray⟩)):=(dU.of_below (by rw [hr0];exact HB2.out)).trans hch3 (fun i hi e=>by rw [hr0] at hi;omega)
 clear b0 b1 b2 b3 b4 b5 b6 zf H2 hch3
 have hs3:r < (w2.setCell ⟨r,3,none⟩ (.string ⟨dat.toArray⟩)).heap.size:=k3.lt
 generalize w2.setCell ⟨r,3,none⟩ (.string ⟨dat.toArray⟩)=w3 at *
 obtain⟨⟨b0,b1,b2,b3,b4,b5,b6⟩,zf⟩:=mM k3
 have q0:=h3.W.ptr
 have qz:=h3.W.blk.free
 have hQr:Q≠r:=by omega
 have hQl3:=h3.W.blk.lt
 have hbd:Below w3.heap.size w3 (w3.drew.alloc (.cells #[.int .i64 kind,.string ⟨#[]⟩,.slice none 0 0,.string ⟨dat.toArray⟩,.int .i64 (-1),.slice none 0 0,.bool false] 81)):=((ak w3.heap.size w3).drew).alloc (au _) _
 have HO:=ae (bH h3.W.row hbd)
 have HS:=ae (jg (n:=1) (size:=7) (dD.new w3.drew [.int .i64 kind,.string ⟨#[]⟩,.slice none 0 0,.string ⟨dat.toArray⟩,.int .i64 (-1),.slice none 0 0,.bool false] 81) rfl (by omega))
 have H2:=ae (show ∀u∈([.int .i64 kind,.string ⟨#[]⟩,.slice none 0 0,.string ⟨dat.toArray⟩,.int .i64 (-1),.slice none 0 0,.bool false]:List Value),u.oneCell'=true from KZ (x:=⟨kD kind [] [] dat,.slice none 0 0,.slice none 0 0⟩) ⟨_,_,_,rfl⟩ ⟨_,_,_,rfl⟩)
 have HQb:=ae (h3.W.blk.below hbd)
 have hQg:Q≠g:=fun e=>by
  have h1:=h3.W.blk
  obtain⟨cg,hg⟩:=dF h3.W.row (b:=g) rfl
  rw [e] at h1
  exact dw h1 hg (by decide) rfl
 have HH3:=ae h3
 have HC3:=ae hC3
 clear h3 hC3 k3
 go_region_law (first
   | (refine jO VI HO.out (aZ _) HS.out H2.out (by omega) (by omega) (by rfl) _ _ (by rfl) (by rfl) (by rfl) ?_;intro v' w4 ho hgr hvb;
       obtain⟨va,vc,rfl⟩:=bP ho;have kb1:=HQb.out.kept (hgr.block Q HQb.out.lt (fun e=>by cases e;exact hQg rfl));have d0:=kb1.cell 0;have df:=kb1.free 0;simp only [List.getElem?_cons_zero] at d0;
       have kb:=ae kb1;have ks:=ae ho;have kg:=ae hgr;have kv:=ae hvb;clear ho hgr hvb kb1))
 all_goals
  go_wp2_with fail
  go_ret
  have hc4:dU (fun k=>k=Q∨(Value.slice (some ⟨g,0,none⟩) X.length cap).ownBlock=some k) w3 w4:=((dU.of_below hbd).grown kg.out (fun k e _=>.inr e))
  have hc5:=(HC3.out.trans hc4 (fun _ _ h=>h)).setCell ⟨Q,0,none⟩ (fun _=>.inl rfl) (.slice va (X.length+1) vc)
  obtain⟨g',hg'⟩:∃g',va=some ⟨g',0,none⟩:=by
   rcases ks.out.2 with ⟨e,_⟩ | ⟨g',cap',cur,e,_⟩
   ·simp only [bD] at e;omega
   ·simp only [bD] at e;exact⟨g',e.1⟩
  subst hg'
  have hgQ':g'≠Q:=fun e=>by
   obtain⟨cur,hcur⟩:=dF (show Own w4 _ _ _ _ _ from ks.out) (b:=g') rfl
   exact dw hcur kb.out (by decide) e
  have hm:=He H0.out ⟨kD kind [] [] dat,.slice none 0 0,.slice none 0 0⟩ hc5 (kb.out.set 0 (.slice (some ⟨g',0,none⟩) (X.length+1) vc)) (gW ks.out (fun b hb=>aF _ _ _ _ (by cases hb;exact hgQ')))
   (kv.out.imp id (fun e b hb=>by rw [e] at hb;cases hb;exact aQ HC3.out.size hbd.size)) (aG _ _ _ _) (aG _ _ _ _) (fun b hb=>by cases hb) (fun b hb=>by cases hb)
  refine⟨X ++ [⟨kD kind [] [] dat,.slice none 0 0,.slice none 0 0⟩],g',vc,0,?_,rfl,?_⟩
  ·unfold ms;rw [ig];exact HR.out
  ·rw [aA];exact hm
theorem xY {al:List jR}{i:Nat}{y:jR}(hy:al[i]? = some y)(h:headB y.1=false):jL al=false:=by
 unfold jL
 have:al.all (fun a=>headB a.1)=false:=by
  rw [List.all_eq_false]
  exact⟨y,ah hy,by simp [h]⟩
 rw [this];rfl
theorem xX {al:List jR}{i k:Nat}{y z:jR}(hy:al[i]? = some y)(hz:al[k]? = some z)(hki:k < i)(h:z.1=y.1):jL al=false:=by
 unfold jL
 have:¬(al.map (·.1)).Nodup:=fun hn=>by
  have h1:(al.map (·.1))[i]? = some y.1:=by rw [bI,hy];rfl
  have h2:(al.map (·.1))[k]? = some y.1:=by rw [bI,hz,← h];rfl
  have:=(iK (by have:=(ai.1 h2).1;omega) hn).1 (h2.trans h1.symm)
  omega
 rw [eP this];simp
def QY (al:List jR)(i:Nat):Prop:=∀j y,j < i→al[j]? = some y→headB y.1=true∧∀k z,k < j→al[k]? = some z→z.1≠y.1
theorem xW {al:List jR}(h:QY al al.length):jL al=true:=by
 unfold jL
 rw [aH]
 constructor
 ·rw [dX]
  intro y hy
  obtain⟨j,hj⟩:=aI.1 hy
  exact(h j y (ai.1 hj).1 hj).1
 ·rw [dG,XY,List.pairwise_iff_getElem]
  intro k j hk hj hkj
  simp only [bM] at hk hj
  rw [List.getElem_map,List.getElem_map]
  exact(h j al[j] hj (ay hj)).2 k al[k] hkj (ay hk)
theorem Gs (l:List jR)(i:Nat)(y:jR)(h:l[i]? = some y)(f:jR→jR):cu ((l.take (i+1)).map f)=cu ((l.take i).map f) ++ OX (f y):=by
 rw [fJ,h,ig]
 exact yE _ _
def VF (sv:Value):List Value:=[.int .i64 2,.string ⟨#[]⟩,sv,.string ⟨#[]⟩,.int .i64 (-1),.slice none 0 0,.bool false]
def VN (w:World)(r:Nat)(al:List jR)(iv:Value)(wr:World):Prop :=
 ∃(i:Nat) (sa:Option Addr) (sl' sc:Nat),i≤al.length∧sl'=i∧iv=.int .i64 (i:Int)∧QY al i∧dD wr r (VF (.slice sa sl' sc)) 81∧wr.ownsRow w.heap.size 92 2 (.slice sa sl' sc) sl' (cu ((al.take i).map fun a=>(a.1,ik a.2)))∧Below w.heap.size w wr
theorem PX {Q g cap:Nat}{X:List MX}{w:World}(h:jC Q (.slice (some ⟨g,0,none⟩) X.length cap) X w)(hX:X.length≤100000)(name data:List UInt8)(hn:name.length≤1000)(v:Value)(al:List jR)(hv:Own w 92 2 v al.length (cu al))(hal:al.length≤100)(has:∀a∈al,a.1.length≤1000∧a.2.length≤1000) :
  Calls Tryz.prog 41 #[.pointer (some ⟨Q,0,none⟩),.int .i64 2,dA name,dA data,v] w (Nz Q g cap X w 2 name data al):=by
 have H0:=ae h
 have lq:=h.W.blk.lt
 have HEl:=ae (fun wx=>JB name (by omega) wx)
 have HHd:=ae (fun(a:jR) (ha:a∈al) wx=>Ee a.1 (by have:=(has a ha).1;omega) wx)
 have HRp:=ae (fun(a:jR) (ha:a∈al) wx=>pU a.2 wx (by have:=(has a ha).2;omega))
 have HEQ:=ae (fun a b:List UInt8=>str_eq a b)
 have HA1:=ae (fun(c:(uB name && jL al)=false)=>Cf.arg (M:=ms X) (data:=data) (rfl:(2:Int)=2) c)
 have HR:=ae (fun(c:(uB name && jL al)=true)=>Cf.el (M:=ms X) (data:=data) (rfl:(2:Int)=2) c)
 obtain⟨va0,vc0,rfl⟩:=aW hv
 have HV:=ae (fun wx (hb:Below w.heap.size w wx)=>bH hv hb)
 unfold dA at *
 have HVc:=ae (fun(j:Nat) (y:jR) (hy:al[j]? = some y) wx (hb:Below w.heap.size w wx)=>(show ∃ga,va0=some ⟨ga,0,none⟩∧ga < w.heap.size∧wx.cell? ⟨ga,j*2,none⟩=some (.string ⟨y.1.toArray⟩)∧wx.cell? ⟨ga,j*2+1,none⟩=some (.string ⟨y.2.toArray⟩) from by
  have hl:=(ai.1 hy).1
  obtain⟨ga,hga⟩:∃g,va0=some ⟨g,0,none⟩:=by
   rcases hv.2 with ⟨e,e2⟩ | ⟨g,cap,cur,e,_⟩
   ·omega
   ·simp only [bD] at e;exact⟨g,e.1⟩
  subst hga
  have ho:=bH hv hb
  have h1:=iM ho (2*j) _ (kz al j y hy).1
  have h2:=iM ho (2*j+1) _ (kz al j y hy).2
  rw [aP,aJ] at h1 h2
  exact⟨ga,rfl,jy hv rfl,by rw [uT];exact h1,by rw [uT j];exact h2⟩))
 clear h hv has
 go_enter Tryz.func41,Tryz.ntmps41
 go_wp2_with fail
 have k1:dD (w.alloc (.cells #[.int .i64 2,.string ⟨#[]⟩,.slice none 0 0,.string ⟨#[]⟩,.int .i64 (-1),.slice none 0 0,.bool false] 81)) w.heap.size [.int .i64 2,.string ⟨#[]⟩,.slice none 0 0,.string ⟨#[]⟩,.int .i64 (-1),.slice none 0 0,.bool false] 81:=dD.new w _ _
 have hb1:Below w.heap.size w (w.alloc (.cells #[.int .i64 2,.string ⟨#[]⟩,.slice none 0 0,.string ⟨#[]⟩,.int .i64 (-1),.slice none 0 0,.bool false] 81)):=(ak _ _).alloc (au _) _
 refine(HEl.out _).mono ?_
 rintro e w2 ⟨rfl,hb2⟩
 have HB2:=ae (aV hb1 hb2)
 have HK2:=ae (k1.below hb2)
 generalize w.alloc (.cells #[.int .i64 2,.string ⟨#[]⟩,.slice none 0 0,.string ⟨#[]⟩,.int .i64 (-1),.slice none 0 0,.bool false] 81)=w1 at *
 clear k1 hb1 hb2
 cases hel:uB name
 ·go_wp2_with fail
  go_ret
  exact⟨X,g,cap,1,HA1.out (by rw [hel];rfl),rfl,fU.refl H0.out HB2.out⟩
 have HEx:=ae hel
 clear hel HEl
 go_wp2_with fail
 go_loopw [12] (fun iv wr=>VN w w.heap.size al iv wr) (fun iv _=>al.length - iW iv)
 case atStart=>exact⟨0,none,0,0,by omega,rfl,rfl,fun j y hj=>absurd hj (by omega),HK2.out,aG _ _ _ _,HB2.out⟩
 case round =>
  obtain⟨i,sa,sl',sc,hi,hsl,rfl,hnm,hkr,hown,hbr⟩:=hrel
  have HNm:=ae hnm
  have HKr:=ae hkr
  have HOr:=ae hown
  have HBr:=ae hbr
  have HSl:=ae hsl
  have hsl2:sl'≤100:=by omega
  clear hnm hkr hown hbr hsl HB2 HK2
  by_cases hil:i < al.length
  ·obtain⟨y,hy⟩:∃y,al[i]? = some y:=⟨_,ay hil⟩
   have hym:=ah hy
   obtain⟨ga,rfl,hga,cn,cv⟩:=HVc.out i y hy _ HBr.out
   have HY:=ae hy
   have HYm:=ae hym
   clear hy hym
   go_wp2_with fail
   refine(HHd.out y HYm.out _).mono ?_
   rintro e w4 ⟨rfl,hb4⟩
   have HB4:=ae (aV HBr.out hb4)
   have HK4:=ae (HKr.out.below hb4)
   have HO4:=ae (fH HOr.out hb4)
   clear hb4 cn cv HKr HOr HBr
   cases hhd:headB y.1
   ·have HN:=ae (xY HY.out hhd)
    clear hhd
    go_wp2_with fail
    go_ret
    exact⟨X,g,cap,1,HA1.out (by rw [HN.out];simp),rfl,fU.refl H0.out HB4.out⟩
   have HHx:=ae hhd
   clear hhd
   go_wp2_with fail
   go_loopw [13] (fun kv wr=>∃k:Nat,k≤i∧kv=.int .i64 (k:Int)∧(∀j z,j < k→al[j]? = some z→z.1≠y.1)∧Below w.heap.size w wr∧dD wr w.heap.size (VF (.slice sa sl' sc)) 81∧wr.ownsRow w.heap.size 92 2 (.slice sa sl' sc) sl' (cu ((al.take i).map fun a=>(a.1,ik a.2)))) (fun kv _=>i - iW kv)
   case atStart=>exact⟨0,by omega,rfl,fun j z hj=>absurd hj (by omega),HB4.out,HK4.out,HO4.out⟩
   case round =>
    obtain⟨k,hk,rfl,hno,hbq,hkq,hoq⟩:=hrel
    have HNo:=ae hno
    have HBq:=ae hbq
    have HKq:=ae hkq
    have HOq:=ae hoq
    clear hno hbq hkq hoq HB4 HK4 HO4
    by_cases hki:k < i
    ·obtain⟨z,hz⟩:∃z,al[k]? = some z:=⟨_,ay (by omega)⟩
     obtain⟨ga',hga',_,cz,_⟩:=HVc.out k z hz _ HBq.out
     cases hga'
     obtain⟨ga',hga',_,cy,_⟩:=HVc.out i y HY.out _ HBq.out
     cases hga'
     have heq:=HEQ.out z.1 y.1
     have HZ:=ae hz
     clear hz
     have hkal:(k:Int) < (al.length:Int):=by omega
     have hial:(i:Int) < (al.length:Int):=by omega
     generalize hs1:(⟨z.1.toArray⟩:ByteArray)=s1 at *
     generalize hs2:(⟨y.1.toArray⟩:ByteArray)=s2 at *
     by_cases hzy:z.1=y.1
     ·rw [dZ hzy] at heq
      have HN:=ae (xX HY.out HZ.out hki hzy)
      clear hzy
      go_wp2_with fail
      go_quiet (fail)
      go_wp2_with fail
      go_ret
      exact⟨X,g,cap,1,HA1.out (by rw [HN.out];simp),rfl,fU.refl H0.out (Below.drewN HBq.out _)⟩
     ·rw [eP hzy] at heq
      have HN:=ae (show ∀j z',j < k+1→al[j]? = some z'→z'.1≠y.1 from fun j z' hj hz'=>by
       by_cases e:j=k
       ·subst e;rw [HZ.out] at hz';cases hz';exact hzy
       ·exact HNo.out j z' (by omega) hz')
      clear hzy
      go_wp2_with fail
      go_quiet (fail)
      go_wp2_with fail
      exact⟨⟨k+1,by omega,by first | rfl | simp,HN.out,Below.drewN HBq.out _,HKq.out,HOq.out⟩,by simp only [iW];omega⟩
    ·obtain rfl:k=i:=by omega
     obtain⟨⟨b0,b1,b2,b3,b4,b5,b6⟩,zf⟩:=mM (show dD _ _ [_,_,_,_,_,_,_] _ from HKq.out)
     obtain⟨ga',hga',_,cn,cv⟩:=HVc.out k y HY.out _ HBq.out
     cases hga'
     have hsz:=HBq.out.size
     have hrl:=HKq.out.lt
     have hgal:ga < wr.heap.size:=by omega
     have hgr0:ga≠w.heap.size:=by omega
     have hne:∀b,(Value.slice sa sl' sc).ownBlock=some b→b≠w.heap.size:=fun b hb e=>by
      obtain⟨cur,hcur⟩:=dF (show Own wr _ _ _ _ _ from iD HOq.out (aZ _)) hb
      subst e
      exact dw hcur HKq.out (by decide) rfl
     have hil2:(k:Int) < (al.length:Int):=by omega
     go_wp2_with fail
     go_region_law (first
      | (go_simp;go_at_call 92;refine(HRp.out y HYm.out _).mono ?_;rintro e w6 ⟨rfl,hb6⟩;
          have hB6:Below wr.heap.size wr w6:=((ak _ wr).drew).trans (hb6.mono (au _));
          obtain⟨⟨d0,d1,d2,d3,d4,d5,d6⟩,zf6⟩:=mM (show dD _ _ [_,_,_,_,_,_,_] _ from HKq.out.below hB6);
          obtain⟨ga6,hga6,_,cn6,cv6⟩:=HVc.out k y HY.out _ (HBq.out.trans (hB6.mono HBq.out.size));cases hga6;
          have hrl6:=(HKq.out.below hB6).lt;have hgl6:=aO hgal hB6.size;have HB6:=ae hB6;clear hb6 hB6)
      | (refine jO Uw (fH HOq.out (HB6.out.alloc HB6.out.size _)) (aQ hsz (by simp;exact Nat.le_succ_of_le HB6.out.size)) (jg (n:=1) (size:=2) (dD.new w6 [.string ⟨y.1.toArray⟩,.string ⟨(ik y.2).toArray⟩] 92) rfl (by omega)) (yF _ _) (by omega) (by omega) (by rfl) _ _ (by rfl) (by rfl) (by rfl) ?_;intro v' w7 ho hgr hvb;
          obtain⟨va,vc,rfl⟩:=bP ho;have kr7:=((HKq.out.below HB6.out).alloc (.cells #[.string ⟨y.1.toArray⟩,.string ⟨(ik y.2).toArray⟩] 92)).kept (hgr.block w.heap.size (by have:=hrl6;simp;omega) (fun e=>hne _ e.symm rfl));have e2:w7.cell? ⟨w.heap.size,2,none⟩=some (.slice sa sl' sc):=kr7.cell 2;have ef:w7.frozen? ⟨w.heap.size,2,none⟩=false:=kr7.free 2;
          have HK7:=ae kr7;have HO7:=ae ho;have HG7:=ae hgr;clear ho hgr hvb kr7))
     all_goals
      have hb7:Below w.heap.size w w7:=((HBq.out.trans (HB6.out.mono HBq.out.size)).alloc (aQ hsz HB6.out.size) _).grown HG7.out (aQ hsz (by simp;exact Nat.le_succ_of_le HB6.out.size)) (fun b hb=>(HOq.out.lt b hb).1)
      have hk8:=HK7.out.set 2 (.slice va (sl'+1) vc)
      have ho8:=gW HO7.out (w':=w7.setCell ⟨w.heap.size,2,none⟩ (.slice va (sl'+1) vc)) (fun b hb=>aF _ _ _ _ (fun e=>by
       obtain⟨cur,hcur⟩:=dF (show Own w7 _ _ _ _ _ from iD HO7.out (aZ _)) hb
       rw [show b=w.heap.size from e] at hcur
       exact dw hcur HK7.out (by decide) rfl))
      have hb8:=hb7.setCell (p:=⟨w.heap.size,2,none⟩) (au w.heap.size) (.slice va (sl'+1) vc)
      have HK8:=ae hk8
      have HO8:=ae ho8
      have HB8:=ae hb8
      have HM:=ae (Gs al k y HY.out (fun a=>(a.1,ik a.2)))
      clear hb7 hk8 ho8 hb8 e2 ef
      go_wp2_with fail
      refine⟨⟨k+1,va,sl'+1,vc,by omega,by have:=HSl.out;omega,by first | rfl | simp,?_,?_,?_,?_⟩,by simp only [iW];omega⟩
      ·intro j z hj hz
       by_cases e:j=k
       ·subst e
        rw [HY.out] at hz;cases hz
        exact⟨HHx.out,fun k' z' hk' hz'=>HNo.out k' z' hk' hz'⟩
       ·exact HNm.out j z (by omega) hz
      ·exact HK8.out
      ·rw [HM.out];exact HO8.out
      ·exact HB8.out
  ·obtain rfl:i=al.length:=by omega
   rw [dE] at HOr
   have hsl3:=HSl.out
   subst hsl3
   have HAL:=ae (show(al.map fun a=>(a.1,ik a.2)).length=al.length from bM _)
   have HRy:=ae (HR.out (by rw [xW HNm.out,HEx.out];rfl))
   generalize (al.map fun a=>(a.1,ik a.2))=AL at *
   clear HR
   have HR:=HRy
   clear HRy
   obtain⟨⟨b0,b1,b2,b3,b4,b5,b6⟩,zf⟩:=mM (show dD _ _ [_,_,_,_,_,_,_] _ from HKr.out)
   have hne:∀b,(Value.slice sa al.length sc).ownBlock=some b→b≠w.heap.size:=fun b hb e=>by
    obtain⟨cur,hcur⟩:=dF (show Own wr _ _ _ _ _ from iD HOr.out (aZ _)) hb
    subst e
    exact dw hcur HKr.out (by decide) rfl
   go_upto_region 18 with fail
   generalize hr0:w.heap.size=r at *
   have k3:=HKr.out.set 1 (.string ⟨name.toArray⟩)
   simp only [VF,List.set_cons_succ,List.set_cons_zero] at k3
   have hsv3:=ae (gW HOr.out (w':=wr.setCell ⟨r,1,none⟩ (.string ⟨name.toArray⟩)) (fun b hb=>aF _ _ _ _ (hne b hb)))
   have H2:jC Q (.slice (some ⟨g,0,none⟩) X.length cap) X wr:=H0.out.below (by rw [hr0];exact HBr.out)
   have h3:jC Q (.slice (some ⟨g,0,none⟩) X.length cap) X (wr.setCell ⟨r,1,none⟩ (.string ⟨name.toArray⟩)):=(ui Q (.slice (some ⟨g,0,none⟩) X.length cap) X).loc wr _ H2 (fun k' hk'=>aF _ _ _ _ (fun e=>by
    have:=(ui Q (.slice (some ⟨g,0,none⟩) X.length cap) X).here w H0.out k' hk'
    rw [show k'=r from e] at this;omega))
   have hch3:dU (fun k=>k=r) wr (wr.setCell ⟨r,1,none⟩ (.string ⟨name.toArray⟩)):=(dU.refl (fun k=>k=r) wr).setCell ⟨r,1,none⟩ (fun _=>(rfl:r=r)) _
   have hC3:dU (fun k=>k=Q∨(Value.slice (some ⟨g,0,none⟩) X.length cap).ownBlock=some k) w (wr.setCell ⟨r,1,none⟩ (.string ⟨name.toArray⟩)):=(dU.of_below (by rw [hr0];exact HBr.out)).trans hch3 (fun i hi e=>by rw [hr0] at hi;omega)
   clear b0 b1 b2 b3 b4 b5 b6 zf H2 hch3
   have hs3:r < (wr.setCell ⟨r,1,none⟩ (.string ⟨name.toArray⟩)).heap.size:=k3.lt
   generalize wr.setCell ⟨r,1,none⟩ (.string ⟨name.toArray⟩)=w3 at *
   obtain⟨⟨b0,b1,b2,b3,b4,b5,b6⟩,zf⟩:=mM k3
   have q0:=h3.W.ptr
   have qz:=h3.W.blk.free
   have hQr:Q≠r:=by omega
   have hQl3:=h3.W.blk.lt
   have hbd:Below w3.heap.size w3 (w3.drew.alloc (.cells #[.int .i64 2,.string ⟨name.toArray⟩,.slice sa al.length sc,.string ⟨#[]⟩,.int .i64 (-1),.slice none 0 0,.bool false] 81)):=((ak w3.heap.size w3).drew).alloc (au _) _
   have HO:=ae (bH h3.W.row hbd)
   have HS:=ae (jg (n:=1) (size:=7) (dD.new w3.drew [.int .i64 2,.string ⟨name.toArray⟩,.slice sa al.length sc,.string ⟨#[]⟩,.int .i64 (-1),.slice none 0 0,.bool false] 81) rfl (by omega))
   have H2:=ae (show ∀u∈([.int .i64 2,.string ⟨name.toArray⟩,.slice sa al.length sc,.string ⟨#[]⟩,.int .i64 (-1),.slice none 0 0,.bool false]:List Value),u.oneCell'=true from KZ (x:=⟨kD 2 name AL [],.slice sa al.length sc,.slice none 0 0⟩) ⟨_,_,_,rfl⟩ ⟨_,_,_,rfl⟩)
   have HQb:=ae (h3.W.blk.below hbd)
   have hQg:Q≠g:=fun e=>by
    have h1:=h3.W.blk
    obtain⟨cg,hg⟩:=dF h3.W.row (b:=g) rfl
    rw [e] at h1
    exact dw h1 hg (by decide) rfl
   have HH3:=ae h3
   have HC3:=ae hC3
   clear h3 hC3 k3
   go_region_law (first
     | (refine jO VI HO.out (aZ _) HS.out H2.out (by omega) (by omega) (by rfl) _ _ (by rfl) (by rfl) (by rfl) ?_;intro v' w4 ho hgr hvb;
         obtain⟨va,vc,rfl⟩:=bP ho;have kb1:=HQb.out.kept (hgr.block Q HQb.out.lt (fun e=>by cases e;exact hQg rfl));have d0:=kb1.cell 0;have df:=kb1.free 0;simp only [List.getElem?_cons_zero] at d0;
         have kb:=ae kb1;have ks:=ae ho;have kg:=ae hgr;have kv:=ae hvb;clear ho hgr hvb kb1))
   all_goals
    go_wp2_with fail
    go_ret
    have hc4:dU (fun k=>k=Q∨(Value.slice (some ⟨g,0,none⟩) X.length cap).ownBlock=some k) w3 w4:=((dU.of_below hbd).grown kg.out (fun k e _=>.inr e))
    have hc5:=(HC3.out.trans hc4 (fun _ _ h=>h)).setCell ⟨Q,0,none⟩ (fun _=>.inl rfl) (.slice va (X.length+1) vc)
    obtain⟨g',hg'⟩:∃g',va=some ⟨g',0,none⟩:=by
     rcases ks.out.2 with ⟨e,_⟩ | ⟨g',cap',cur,e,_⟩
     ·simp only [bD] at e;omega
     ·simp only [bD] at e;exact⟨g',e.1⟩
    subst hg'
    have hgQ':g'≠Q:=fun e=>by
     obtain⟨cur,hcur⟩:=dF (show Own w4 _ _ _ _ _ from ks.out) (b:=g') rfl
     exact dw hcur kb.out (by decide) e
    have hm:=He H0.out ⟨kD 2 name AL [],.slice sa al.length sc,.slice none 0 0⟩ hc5 (kb.out.set 0 (.slice (some ⟨g',0,none⟩) (X.length+1) vc)) (gW ks.out (fun b hb=>aF _ _ _ _ (by cases hb;exact hgQ')))
     (kv.out.imp id (fun e b hb=>by rw [e] at hb;cases hb;exact aQ HC3.out.size hbd.size)) (by
      have hal:AL.length=al.length:=HAL.out
      show Own _ _ _ _ AL.length _
      rw [hal]
      refine gW (gW (show w3.ownsRow 0 92 2 (.slice sa al.length sc) al.length (cu AL) from iD hsv3.out (aZ _)) (w':=w4) (fun b hb=>hc4.block b (hsv3.out.lt b hb).2 (fun e=>?_))) (fun b hb=>aF _ _ _ _ (fun e=>?_))
      ·obtain⟨cur,hcur⟩:=dF (show Own w3 _ _ _ _ _ from iD hsv3.out (aZ _)) hb
       rcases e with e | e
       ·subst e;exact dw hcur HH3.out.W.blk (by decide) rfl
       ·obtain⟨cg,hg⟩:=dF HH3.out.W.row e;exact dw hcur hg (by decide) rfl
      ·have:=(hsv3.out.lt b hb).1
       rw [show b=Q from e] at this
       omega) (aG _ _ _ _) (fun b hb=>by rw [hr0];exact(hsv3.out.lt b hb).1) (fun b hb=>by cases hb)
    refine⟨X ++ [⟨kD 2 name AL [],.slice sa al.length sc,.slice none 0 0⟩],g',vc,0,?_,rfl,?_⟩
    ·unfold ms;rw [ig];exact HR.out
    ·rw [aA];exact hm
theorem FU {Q g cap:Nat}{X:List MX}{w:World}(h:jC Q (.slice (some ⟨g,0,none⟩) X.length cap) X w)(hX:X.length≤100000)(kind:Int)(hk0:0≤kind)(hk1:kind≤100)(name data:List UInt8)(hn:name.length≤1000)(hd:data.length≤1000)(v:Value)(al:List jR)(hv:Own w 92 2 v al.length (cu al))(hal:al.length≤100)(has:∀a∈al,a.1.length≤1000∧a.2.length≤1000) :
  Calls Tryz.prog 41 #[.pointer (some ⟨Q,0,none⟩),.int .i64 kind,dA name,dA data,v] w (Nz Q g cap X w kind name data al):=by
 by_cases hk:kind=2
 ·subst hk
  exact PX h hX name data hn v al hv hal has
 ·exact PW h hX kind hk hk0 hk1 name data hd v al
theorem PV (w:World) :
  Calls Tryz.prog 40 #[] w fun e w'=>∃Q g cap X,e=.returned (.pointer (some ⟨Q,0,none⟩))∧ms X=[kD 1 [] [] []]∧All w.heap.size w [ui Q (.slice (some ⟨g,0,none⟩) X.length cap) X] w':=by
 go_enter Tryz.func40,Tryz.ntmps40
 go_wp2_with fail
 go_ret
 refine⟨w.heap.size+1,w.heap.size,1,[⟨kD 1 [] [] [],.slice none 0 0,.slice none 0 0⟩],by simp,rfl,?_⟩
 have k1:=dD.new w (qZ ⟨kD 1 [] [] [],.slice none 0 0,.slice none 0 0⟩) 81
 have k2:=dD.new (w.alloc (.cells (qZ ⟨kD 1 [] [] [],.slice none 0 0,.slice none 0 0⟩).toArray 81)) [.slice (some ⟨w.heap.size,0,none⟩) 1 1] 84
 have hb:Below w.heap.size w ((w.alloc (.cells (qZ ⟨kD 1 [] [] [],.slice none 0 0,.slice none 0 0⟩).toArray 81)).alloc (.cells #[.slice (some ⟨w.heap.size,0,none⟩) 1 1] 84)):=((ak _ _).alloc (au _) _).alloc (by simp) _
 have hs:(w.alloc (.cells (qZ ⟨kD 1 [] [] [],.slice none 0 0,.slice none 0 0⟩).toArray 81)).heap.size=w.heap.size+1:=by simp
 rw [hs] at k2
 have k1':=k1.alloc (.cells #[.slice (some ⟨w.heap.size,0,none⟩) 1 1] 84)
 have hm:jC (w.heap.size+1) (.slice (some ⟨w.heap.size,0,none⟩) 1 1) [⟨kD 1 [] [] [],.slice none 0 0,.slice none 0 0⟩] ((w.alloc (.cells (qZ ⟨kD 1 [] [] [],.slice none 0 0,.slice none 0 0⟩).toArray 81)).alloc (.cells #[.slice (some ⟨w.heap.size,0,none⟩) 1 1] 84)):=by
  refine⟨⟨k2,?_,?_,?_⟩,?_,?_⟩
  ·have:=jg (n:=1) (size:=7) k1' rfl (by omega)
   simpa [rows] using this
  ·intro x hx;simp at hx;subst hx;exact aG _ _ _ _
  ·intro x hx;simp at hx;subst hx;exact aG _ _ _ _
  ·intro i j x y b hij hi hj hb
   have h1:=ah hi
   simp at h1;subst h1;cases hb
  ·intro i j x y b hij hi hj hb
   have h1:=ah hi
   simp at h1;subst h1;cases hb
 refine⟨?_,by simp,?_,hb,by simp;omega⟩
 ·intro o ho;simp at ho;subst ho;exact hm
 ·intro o ho k hk
  simp at ho;subst ho
  rcases hk with rfl | hk | ⟨y,hy,hk⟩
  ·omega
  ·cases hk;exact au _
  ·simp at hy;subst hy;rcases hk with hk | hk <;> cases hk
def nd0:MN:=⟨0,[],[],[],none,[],false⟩
def KX (M:List MN)(i:Nat):MN:=(M[i]?).getD nd0
theorem vP {M:List MN}{i:Nat}{m:MN}(h:lv M i=some m):KX M i=m:=by unfold KX;rw [(lV h).1];rfl
def vM (l:List Nat)(k x:Nat):Nat:=k+l.idxOf x
def OW (M:List MN)(ψ : Nat→Nat)(top:Nat)(par:Option Nat)(x:Nat):MN:=⟨(KX M x).kind,(KX M x).name,(KX M x).attrs,(KX M x).data,if x=top then par else(KX M x).par.map ψ,(KX M x).kids.map ψ,false⟩
def Ir (M:List MN)(o:Option Nat)(k:Nat):List MN:=match o with
 | none=>M
 | some p=>M.mapIdx fun i m=>if i=p then { m with kids:=m.kids ++ [k] } else m
theorem vZ (M:List MN)(o:Option Nat)(k:Nat):(Ir M o k).length=M.length:=by cases o <;> simp [Ir]
theorem QW (A B:List MN)(p k:Nat)(hp:A.length=p)(b:MN):Ir (A ++ b :: B) (some p) k=A ++ { b with kids:=b.kids ++ [k] } :: B:=by
 subst hp
 simp only [Ir]
 apply gu
 intro i
 rw [dB]
 rcases Nat.lt_trichotomy i A.length with h | h | h
 ·rw [di h,di h]
  have:¬i=A.length:=by omega
  simp only [this,iJ]
  cases A[i]? <;> rfl
 ·subst h
  rw [bZ (au _),bZ (au _),jY]
  simp
 ·rw [bZ (by omega),bZ (by omega)]
  obtain⟨t,ht⟩:∃t,i - A.length=t+1:=⟨i - A.length - 1,by omega⟩
  rw [ht,List.getElem?_cons_succ,List.getElem?_cons_succ]
  have:¬i=A.length:=by omega
  simp only [this,iJ]
  cases B[t]? <;> rfl
theorem QV {M:List MN}{p k:Nat}{m:MN}(h:M[p]? = some m):Ir M (some p) k=M.set p { m with kids:=m.kids ++ [k] }:=by
 simp only [Ir]
 apply gu
 intro i
 have hl:=(ai.1 h).1
 rw [dB,dH]
 by_cases e:p=i
 ·subst e
  rw [aC rfl,aC hl,h];simp
 ·have e':¬i=p:=fun h=>e h.symm
  rw [ax e]
  simp only [e',iJ,Option.map_id']
section
variable {M : List MN} {D : Nat → Nat}
theorem MW.wF (hW:MW M D):∀(f i x:Nat) (mi mx:MN),lv M i=some mi→128 - D i≤f→x∈dR (kM M) f i→lv M x=some mx→∀k∈mx.kids,k∈dR (kM M) f i
 | 0,i,x,mi,mx,hi,hf,hx,hmx,k,hk=>by
  simp [dR] at hx;subst hx
  obtain⟨mk,h1,h2⟩:=hW.kid x mx k hmx hk
  obtain⟨mp,h3,_,h4⟩:=hW.par k mk x h1 h2
  have:=hW.low k mk h1
  omega
 | f+1,i,x,mi,mx,hi,hf,hx,hmx,k,hk=>by
  rw [dR,bn] at hx ⊢
  right
  rcases hx with rfl | hx
  ·exact bT.2 ⟨k,by rw [qQ hmx];exact hk,by cases f <;> simp [dR]⟩
  ·obtain⟨q,hq,hx⟩:=bT.1 hx
   rw [qQ hi] at hq
   obtain⟨mq,h1,h2⟩:=hW.kid i mi q hi hq
   obtain⟨_,_,_,h4⟩:=hW.par q mq i h1 h2
   exact bT.2 ⟨q,by rw [qQ hi];exact hq,hW.wF f q x mq mx h1 (by omega) hx hmx k hk⟩
theorem MW.yP (hW:MW M D):∀(f i x:Nat) (mi mx:MN),lv M i=some mi→x∈dR (kM M) f i→x≠i→lv M x=some mx→∃p,mx.par=some p∧p∈dR (kM M) f i
 | 0,i,x,mi,mx,hi,hx,hne,hmx=>by simp [dR] at hx;exact absurd hx hne
 | f+1,i,x,mi,mx,hi,hx,hne,hmx=>by
  rw [dR,bn] at hx
  rcases hx with rfl | hx
  ·exact absurd rfl hne
  ·obtain⟨q,hq,hx⟩:=bT.1 hx
   have hq':=hq
   rw [qQ hi] at hq
   obtain⟨mq,h1,h2⟩:=hW.kid i mi q hi hq
   by_cases e:x=q
   ·subst e
    rw [hmx] at h1;cases h1
    exact⟨i,h2,by simp [dR]⟩
   ·obtain⟨p,h3,h4⟩:=hW.yP f q x mq mx h1 hx e hmx
    exact⟨p,h3,by rw [dR];exact gX _ (bT.2 ⟨q,hq',h4⟩)⟩
theorem MW.qO (hW:MW M D):∀(f i:Nat) (m:MN),lv M i=some m→∀y∈dR (kM M) f i,∃my,lv M y=some my
 | 0,i,m,hi,y,hy=>by simp [dR] at hy;subst hy;exact⟨m,hi⟩
 | f+1,i,m,hi,y,hy=>by
  rw [dR,bn] at hy
  rcases hy with rfl | hy
  ·exact⟨m,hi⟩
  ·obtain⟨k,hk,hy⟩:=bT.1 hy
   rw [qQ hi] at hk
   obtain⟨mk,h1,_⟩:=hW.kid i m k hi hk
   exact hW.qO f k mk h1 y hy
theorem MW.Gw (hW:MW M D){f i:Nat}{m:MN}(hi:lv M i=some m)(hf:128 - D i=f):dR (kM M) f i=i :: m.kids.flatMap (dR (kM M) (f - 1)):=by
 cases f with
 | zero =>
  have hk0:m.kids=[]:=by
   cases hk:m.kids with
   | nil=>rfl
   | cons k t =>
    obtain⟨mk,hmk,hpk⟩:=hW.kid i m k hi (by rw [hk];simp)
    obtain⟨mi,hmi,_,hd⟩:=hW.par k mk i hmk hpk
    have:=hW.low k mk hmk
    omega
  rw [hk0];rfl
 | succ f =>
  show i :: (kM M i).flatMap (dR (kM M) f)=_
  rw [qQ hi];rfl
theorem Ib {l r:List Nat}{x:Nat}(h:x∈l):(l ++ r).idxOf x=l.idxOf x:=by
 rw [List.idxOf_append,aC h]
theorem ER {l r:List Nat}{x:Nat}(h:x∉l):(l ++ r).idxOf x=r.idxOf x+l.length:=by
 rw [List.idxOf_append,ax h]
theorem MI (hW:MW M D)(hN:∀f i m,lv M i=some m→(dR (kM M) f i).Nodup){f i j q k x:Nat}{m:MN}(hi:lv M i=some m)(hf:128 - D i=f)(hq:m.kids[j]? = some q)(hx:x∈dR (kM M) (f - 1) q) :
  vM (dR (kM M) f i) k x=vM (dR (kM M) (f - 1) q) (k+1+((m.kids.take j).flatMap (dR (kM M) (f - 1))).length) x:=by
 have hnd:=hN f i m hi
 have hE:=hW.Gw hi hf
 have hsplit:m.kids=m.kids.take j ++ q :: m.kids.drop (j+1):=by
  have hj:=(ai.1 hq).1
  have:m.kids.drop j=q :: m.kids.drop (j+1):=by
   rw [qA hj]
   congr 1
   exact(ai.1 hq).2
  rw [← this,bG]
 rw [hE] at hnd ⊢
 generalize dR (kM M) (f - 1)=W at *
 have e2:m.kids.flatMap W=(m.kids.take j).flatMap W ++ (W q ++ (m.kids.drop (j+1)).flatMap W):=by
  conv=>lhs;rw [hsplit]
  rw [jT,eG]
 rw [e2] at hnd ⊢
 rw [o8,jf] at hnd
 obtain⟨h1,h2,h3,h4⟩:=hnd
 have hxi:¬i=x:=fun e=>by
  subst e
  exact h1 (by rw [cZ,cZ];exact .inr (.inl hx))
 have hxl:x∉(m.kids.take j).flatMap W:=fun h=>h4 x h x (qj _ hx) rfl
 unfold vM
 rw [List.idxOf_cons]
 have:(i == x)=false:=eY.2 hxi
 rw [this,ER hxl,Ib hx]
 simp only [cond_false]
 omega
theorem MH {l:List Nat}(k i:Nat):vM (i :: l) k i=k:=by unfold vM;simp
theorem Dh (K:Nat→List Nat)(f i:Nat):∃r,dR K f i=i :: r:=by cases f <;> exact⟨_,rfl⟩
theorem UI (hW:MW M D)(hN:∀f i m,lv M i=some m→(dR (kM M) f i).Nodup){f i j q k:Nat}{par:Option Nat}{m:MN}(hi:lv M i=some m)(hf:128 - D i=f)(hq:m.kids[j]? = some q) :
  (dR (kM M) (f - 1) q).map (OW M (vM (dR (kM M) (f - 1) q) (k+1+((m.kids.take j).flatMap (dR (kM M) (f - 1))).length)) q (some k))=(dR (kM M) (f - 1) q).map (OW M (vM (dR (kM M) f i) k) i par):=by
 have hqm:=ah hq
 obtain⟨mq,hmq,hpq⟩:=hW.kid i m q hi hqm
 obtain⟨mi,hmi,_,hd⟩:=hW.par q mq i hmq hpq
 have hlow:=hW.low q mq hmq
 have hnd:=hN f i m hi
 rw [hW.Gw hi hf,o8] at hnd
 refine fM (fun x hx=>?_)
 have hP:∀y,y∈dR (kM M) (f - 1) q→vM (dR (kM M) (f - 1) q) (k+1+((m.kids.take j).flatMap (dR (kM M) (f - 1))).length) y=vM (dR (kM M) f i) k y:=fun y hy=>(MI hW hN hi hf hq hy).symm
 obtain⟨mx,hmx⟩:=hW.qO (f - 1) q mq hmq x hx
 have hxi:x≠i:=fun e=>hnd.1 (bT.2 ⟨q,hqm,e ▸ hx⟩)
 unfold OW
 rw [vP hmx]
 congr 1
 ·rw [ax hxi]
  by_cases e:x=q
  ·subst e
   rw [hmq] at hmx;cases hmx
   rw [aC rfl,hpq,hW.Gw hi hf]
   show some k=some (vM _ k i)
   rw [MH]
  ·rw [ax e]
   obtain⟨p,h1,h2⟩:=hW.yP (f - 1) q x mq mx hmq hx e hmx
   rw [h1]
   show some _=some _
   rw [hP p h2]
 ·refine fM (fun y hy=>hP y ?_)
  exact hW.wF (f - 1) q x mq mx hmq (by omega) hx hmx y hy
end
theorem jC.Ro {Q g cap i:Nat}{X:List MX}{w w5:World}{x:MX}(h:jC Q (.slice (some ⟨g,0,none⟩) X.length cap) X w)(hi:X[i]? = some x)(hc:dU (fun k=>x.kv.ownBlock=some k) w w5)(v:Value)(kl:List Nat)(ho:Own w5 3 1 v kl.length (kC kl))
  (hv:v.ownBlock=x.kv.ownBlock∨∀b,v.ownBlock=some b→w.heap.size≤b) :
  fU Q (.slice (some ⟨g,0,none⟩) X.length cap) X w (.slice (some ⟨g,0,none⟩) (X.set i { x with kv:=v,m:={ x.m with kids:=kl } }).length cap) (X.set i { x with kv:=v,m:={ x.m with kids:=kl } }) (w5.setCell ⟨g,i*7+5,none⟩ v):=by
 have hil:=(ai.1 hi).1
 have hmi:=ah hi
 obtain⟨cg,hg⟩:=dF h.W.row (b:=g) rfl
 have hgl:=gp hg
 have hxa:∀b,x.kv.ownBlock=some b→∃cur,w.heap[b]? = some (.cells cur 3 (0,0)):=fun b hb=>dF (h.W.kid x hmi) hb
 have hgx:x.kv.ownBlock≠some g:=fun e=>by
  obtain⟨cur,hcur⟩:=hxa g e
  rw [hg] at hcur;cases hcur
 have hg5:w5.heap[g]? = w.heap[g]?:=hc.block g hgl hgx
 have hAv:∀b,v.ownBlock=some b→b≠g:=fun b hb e=>by
  subst e
  rcases hv with e | e
  ·exact hgx (e ▸ hb)
  ·have:=e _ hb;omega
 have hov:Own (w5.setCell ⟨g,i*7+5,none⟩ v) 3 1 v kl.length (kC kl):=iO ho (fun b hb=>aF _ _ _ _ (hAv b hb))
 have hmem:∀y∈X.set i { x with kv:=v,m:={ x.m with kids:=kl } },y={ x with kv:=v,m:={ x.m with kids:=kl } }∨∃k,k≠i∧X[k]? = some y:=fun y hy=>by
  obtain⟨k,hk⟩:=aI.1 hy
  rcases uO hi k y hk with ⟨_,e⟩ | ⟨e,e2⟩
  ·exact .inl e
  ·exact .inr ⟨k,e,e2⟩
 have hneK:∀y∈X,∀b,y.av.ownBlock=some b→x.kv.ownBlock≠some b:=fun y hy b hb e=>by
  obtain⟨c1,h1⟩:=hxa b e
  obtain⟨c2,h2⟩:=dF (h.W.sF y hy) hb
  rw [h1] at h2;cases h2
 refine⟨⟨⟨?_,?_,?_,?_⟩,?_,?_⟩,?_,?_⟩
 ·have hQ:=h.W.blk
  rw [dI]
  refine hQ.kept ((aF _ _ _ _ (fun e=>?_)).trans (hc.block Q hQ.lt (fun e=>?_)))
  ·have e2:w.heap[Q]? = _:=hQ
   rw [show Q=g from e,hg] at e2;cases e2
  ·obtain⟨cur,hcur⟩:=hxa Q e
   have e2:w.heap[Q]? = _:=hQ
   rw [hcur] at e2;cases e2
 ·rw [dI,tK wP X i 5 x { x with kv:=v,m:={ x.m with kids:=kl } } v hi (by omega) rfl]
  have h5:Own w5 81 7 (.slice (some ⟨g,0,none⟩) X.length cap) X.length (rows qZ X):=iO h.W.row (fun b hb=>by cases hb;exact hg5)
  exact tZ h5 (i*7+5) v
 ·intro y hy
  have hk':∃z∈X,y.av=z.av∧y.m.attrs=z.m.attrs:=by
   rcases hmem y hy with rfl | ⟨k,hk,hy⟩
   ·exact⟨x,hmi,rfl,rfl⟩
   ·exact⟨y,ah hy,rfl,rfl⟩
  obtain⟨z,hz,e1,e2⟩:=hk'
  rw [e1,e2]
  have hoz:=h.W.sF z hz
  refine iO hoz (fun b hb=>?_)
  obtain⟨cur,hcur⟩:=dF hoz hb
  refine(aF _ _ _ _ (fun e3=>?_)).trans (hc.block b (gp hcur) (hneK z hz b hb))
  rw [show b=g from e3,hg] at hcur
  cases hcur
 ·intro y hy
  rcases hmem y hy with rfl | ⟨k,hk,hy⟩
  ·exact hov
  ·have hym:=ah hy
   have hoy:=h.W.kid y hym
   refine iO hoy (fun b hb=>?_)
   obtain⟨cur,hcur⟩:=dF hoy hb
   refine(aF _ _ _ _ (fun e2=>?_)).trans (hc.block b (gp hcur) (fun e2=>h.OY i k x y b (fun e=>hk e.symm) hi hy e2 hb))
   rw [show b=g from e2,hg] at hcur
   cases hcur
 ·intro a c p q b hac hp hq hb
  have back:∀(k:Nat) (y:MX),(X.set i { x with kv:=v,m:={ x.m with kids:=kl } })[k]? = some y→∃z,X[k]? = some z∧y.av=z.av:=fun k y hk=>by
   rcases uO hi k y hk with ⟨rfl,rfl⟩ | ⟨_,e⟩
   ·exact⟨x,hi,rfl⟩
   ·exact⟨y,e,rfl⟩
  obtain⟨z1,h1,e1⟩:=back a p hp
  obtain⟨z2,h2,e2⟩:=back c q hq
  rw [e2]
  exact h.OM a c z1 z2 b hac h1 h2 (e1 ▸ hb)
 ·intro a c p q b hac hp hq hb
  have fresh:∀y∈X,∀b,y.kv.ownBlock=some b→b < w.heap.size:=fun y hy b hb=>jy (h.W.kid y hy) hb
  rcases uO hi a p hp with ⟨rfl,rfl⟩ | ⟨e1,hp'⟩
  ·rcases uO hi c q hq with ⟨e2,_⟩ | ⟨e2,hq⟩
   ·exact absurd e2.symm hac
   ·intro e3
    have hb':v.ownBlock=some b:=hb
    rcases hv with e | e
    ·rw [e] at hb';exact h.OY a c x q b hac hi hq hb' e3
    ·have:=e b hb';have:=fresh q (ah hq) b e3;omega
  ·rcases uO hi c q hq with ⟨rfl,rfl⟩ | ⟨e2,hq⟩
   ·intro e3
    have hb':v.ownBlock=some b:=e3
    rcases hv with e | e
    ·rw [e] at hb';exact h.OY a c p x b hac hp' hi hb hb'
    ·have:=e b hb';have:=fresh p (ah hp') b hb;omega
   ·exact h.OY a c p q b hac hp' hq hb
 ·exact(hc.mono (G:=Tj Q (.slice (some ⟨g,0,none⟩) X.length cap) X) (fun k _ e=>.inr (.inr ⟨x,hmi,.inr e⟩))).setCell ⟨g,i*7+5,none⟩ (fun _=>.inr (.inl rfl)) v
 ·intro k hk
  rcases hk with rfl | hk | ⟨y,hy,hk⟩
  ·exact .inl (.inl rfl)
  ·exact .inl (.inr (.inl hk))
  ·rcases hmem y hy with rfl | ⟨k',_,hy⟩
   ·rcases hk with hk | hk
    ·exact .inl (.inr (.inr ⟨x,hmi,.inl hk⟩))
    ·have hk':v.ownBlock=some k:=hk
     rcases hv with e | e
     ·exact .inl (.inr (.inr ⟨x,hmi,.inr (e ▸ hk')⟩))
     ·exact .inr (e k hk')
   ·exact .inl (.inr (.inr ⟨y,ah hy,hk⟩))
end Go.Proofs.YtfelmdkeaacfeaaGreatDoor.W
end
