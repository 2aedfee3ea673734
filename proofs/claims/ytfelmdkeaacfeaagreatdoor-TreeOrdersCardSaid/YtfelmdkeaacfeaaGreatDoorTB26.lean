/- Texts joined: Mcpy Col. -/
import Derived.Test.YtfelmdkeaacfeaaGreatDoorTB1
import Derived.Test.YtfelmdkeaacfeaaGreatDoorTB18
import Derived.Test.YtfelmdkeaacfeaaGreatDoorTB25
import Derived.Deep.CutBlock
import Derived.Deep.DeepCutAuto
set_option maxRecDepth 100000
set_option maxHeartbeats 40000000
set_option linter.unusedVariables false
set_option linter.unusedSimpArgs false
section
namespace Go.Proofs.YtfelmdkeaacfeaaGreatDoor.W
open Go.RowKit
def TL (Q g cap n r:Nat)(x:MX)(aa:Option Addr)(ac:Nat)(w':World):Prop :=
 w'.cell? ⟨Q,0,none⟩=some (.slice (some ⟨g,0,none⟩) n cap)∧w'.cell? ⟨r,0,none⟩=some (.int .i64 x.m.kind)∧w'.cell? ⟨r,1,none⟩=some (.string ⟨x.m.name.toArray⟩)∧w'.cell? ⟨r,2,none⟩=some (.slice aa x.m.attrs.length ac)∧w'.cell? ⟨r,3,none⟩=some (.string ⟨x.m.data.toArray⟩)
def Vy (x:MX)(par:Option Nat)(v1:Value):MX:=⟨⟨x.m.kind,x.m.name,x.m.attrs,x.m.data,par,[],false⟩,v1,.slice none 0 0⟩
structure Vw (Q g cap:Nat) (X:List MX) (W:World) (x:MX) (par:Option Nat) (R:Ob) (v3 v1:Value) (w':World):Prop where
 blk:dD w' Q [.slice (some ⟨g,0,none⟩) X.length cap] 84
 row:Own w' 81 7 v3 (X.length+1) (rows qZ X ++ qZ (Vy x par v1))
 sF:Own w' 92 2 v1 x.m.attrs.length (cu x.m.attrs)
 r:R.P w'
 qU:dU (fun k=>k=g) W w'
 new:v3.ownBlock=some g∨∀b,v3.ownBlock=some b→W.heap.size≤b
def ND (Q g cap:Nat)(X:List MX)(W:World)(x:MX)(par:Option Nat)(R:Ob):List Value→List Ob→World→Prop
 | [],Y,w'=>All 0 W (Y ++ [ui Q (.slice (some ⟨g,0,none⟩) X.length cap) X,R]) w'∧Below W.heap.size W w'
 | [v0],Y,w'=>(All 0 W (Y ++ sl 92 2 v0 0 [] :: [ui Q (.slice (some ⟨g,0,none⟩) X.length cap) X,R]) w'∧Below W.heap.size W w')∧∀b,v0.ownBlock=some b→W.heap.size≤b
 | [v1,_],Y,w'=>(All 0 W (Y ++ sl 92 2 v1 x.m.attrs.length (cu x.m.attrs) :: [ui Q (.slice (some ⟨g,0,none⟩) X.length cap) X,R]) w'∧Below W.heap.size W w')∧∀b,v1.ownBlock=some b→W.heap.size≤b
 | [v2,v1,_],Y,w'=>((All 0 W (Y ++ sl 92 2 v1 x.m.attrs.length (cu x.m.attrs) :: [ui Q (.slice (some ⟨g,0,none⟩) X.length cap) X,R]) w'∧Below W.heap.size W w')∧∀b,v1.ownBlock=some b→W.heap.size≤b)∧(∃g2,v2=.slice (some ⟨g2,0,none⟩) 1 1)∧Own w' 81 7 v2 1 (qZ (Vy x par v1))
 | [v3,_,v1,_],_,w'=>Vw Q g cap X W x par R v3 v1 w'∧∀b,v1.ownBlock=some b→W.heap.size≤b
 | _,_,_=>False
def WL (Q n:Nat)(x:MX)(par:Option Nat):List Value→Value→Prop
 | [],v=>∃g0,v=.slice (some ⟨g0,0,none⟩) 0 0
 | [_],v=>∃a c,v=.slice a x.m.attrs.length c
 | [_,_],v=>∃g2,v=.slice (some ⟨g2,0,none⟩) 1 1
 | _,v=>∃a c,v=.slice a (n+1) c
section
variable {Q g cap : Nat} {X : List MX} {W w' : World} {x : MX} {par : Option Nat} {R : Ob}
theorem ND.facts {k:List Value}{Y:List Ob}(h:ND Q g cap X W x par R k Y w'):w'.cell? ⟨Q,0,none⟩=some (.slice (some ⟨g,0,none⟩) X.length cap)∧R.P w':=by
 have key:∀l:List Ob,All 0 W (l ++ [ui Q (.slice (some ⟨g,0,none⟩) X.length cap) X,R]) w'→w'.cell? ⟨Q,0,none⟩=some (.slice (some ⟨g,0,none⟩) X.length cap)∧R.P w':=fun l hl=>by
  have h1:jC Q (.slice (some ⟨g,0,none⟩) X.length cap) X w':=hl.P (ui Q (.slice (some ⟨g,0,none⟩) X.length cap) X) (by simp)
  exact⟨h1.W.ptr,hl.P R (by simp)⟩
 match k,h with
 | [],h=>exact key Y h.1
 | [v0],h=>exact key (Y ++ [_]) (by rw [bu];exact h.1.1)
 | [v1,_],h=>exact key (Y ++ [_]) (by rw [bu];exact h.1.1)
 | [v2,v1,_],h=>exact key (Y ++ [_]) (by rw [bu];exact h.1.1.1)
 | [v3,_,v1,_],h=>exact⟨h.1.blk.cell 0,h.1.r⟩
theorem ND.alloc (k:List Value)(Y:List Ob)(w':World)(cs:List Value)(ty:TypeId)(h:ND Q g cap X W x par R k Y w'):ND Q g cap X W x par R k (bk w'.heap.size cs ty :: Y) (w'.alloc (.cells cs.toArray ty)):=by
 have hb:Below w'.heap.size w' (w'.alloc (.cells cs.toArray ty)):=(ak _ _).alloc (au _) _
 have hs:=hb.size
 match k,h with
 | [],h=>exact⟨h.1.sO cs ty,aV h.2 hb⟩
 | [v0],h=>exact⟨⟨h.1.1.sO cs ty,aV h.1.2 hb⟩,h.2⟩
 | [v1,_],h=>exact⟨⟨h.1.1.sO cs ty,aV h.1.2 hb⟩,h.2⟩
 | [v2,v1,_],h=>exact⟨⟨⟨h.1.1.1.sO cs ty,aV h.1.1.2 hb⟩,h.1.2⟩,h.2.1,bH h.2.2 hb⟩
 | [v3,_,v1,_],h=>exact⟨⟨h.1.blk.below hb,bH h.1.row hb,bH h.1.sF hb,R.loc w' _ h.1.r (fun b hb'=>hb.block b (R.here w' h.1.r b hb')),h.1.qU.trans (dU.of_below hb) (fun _ _ e=>e),h.1.new⟩,h.2⟩
theorem ND.perm (k:List Value)(Y Z:List Ob)(w':World)(hp:Y.Perm Z)(h:ND Q g cap X W x par R k Y w'):ND Q g cap X W x par R k Z w':=by
 match k,h with
 | [],h=>exact⟨h.1.perm (dY _ hp),h.2⟩
 | [v0],h=>exact⟨⟨h.1.1.perm (dY _ hp),h.1.2⟩,h.2⟩
 | [v1,_],h=>exact⟨⟨h.1.1.perm (dY _ hp),h.1.2⟩,h.2⟩
 | [v2,v1,_],h=>exact⟨⟨⟨h.1.1.1.perm (dY _ hp),h.1.1.2⟩,h.1.2⟩,h.2⟩
 | [v3,_,v1,_],h=>exact h
end
def Vr (Q g n cap p:Nat)(kv:Value)(w':World):Prop:=w'.cell? ⟨Q,0,none⟩=some (.slice (some ⟨g,0,none⟩) n cap)∧w'.cell? ⟨g,p*7+5,none⟩=some kv
def O0 (W:World)(kv:Value)(ks:List Nat)(k:Nat):List Value→List Ob→World→Prop
 | [],_,w'=>Below W.heap.size W w'
 | [v0],_,w'=>Below W.heap.size W w'∧(∃g0,v0=.slice (some ⟨g0,0,none⟩) 1 1)∧Own w' 3 1 v0 1 [.int .i64 (k:Int)]
 | [v1,_],_,w'=>dU (fun b=>kv.ownBlock=some b) W w'∧Own w' 3 1 v1 (ks.length+1) (kC (ks ++ [k]))∧(v1.ownBlock=kv.ownBlock∨∀b,v1.ownBlock=some b→W.heap.size≤b)
 | _,_,_=>False
def WA (n:Nat):List Value→Value→Prop
 | [],v=>∃g0,v=.slice (some ⟨g0,0,none⟩) 1 1
 | _,v=>∃a c,v=.slice a (n+1) c
theorem O0.alloc {W:World}{kv:Value}{ks:List Nat}{k:Nat}(l:List Value)(Y:List Ob)(w':World)(cs:List Value)(ty:TypeId)(h:O0 W kv ks k l Y w'):O0 W kv ks k l (bk w'.heap.size cs ty :: Y) (w'.alloc (.cells cs.toArray ty)):=by
 have hb:Below w'.heap.size w' (w'.alloc (.cells cs.toArray ty)):=(ak _ _).alloc (au _) _
 match l,h with
 | [],h=>exact aV h hb
 | [v0],h=>exact⟨aV h.1 hb,h.2.1,bH h.2.2 hb⟩
 | [v1,_],h=>exact⟨h.1.trans (dU.of_below hb) (fun _ _ e=>e),bH h.2.1 hb,h.2.2⟩
theorem O0.perm {W:World}{kv:Value}{ks:List Nat}{k:Nat}(l:List Value)(Y Z:List Ob)(w':World)(hp:Y.Perm Z)(h:O0 W kv ks k l Y w'):O0 W kv ks k l Z w':=by
 match l,h with
 | [],h=>exact h
 | [v0],h=>exact h
 | [v1,_],h=>exact h
theorem O0.qU {W:World}{kv:Value}{ks:List Nat}{k:Nat}{l:List Value}{Y:List Ob}{w':World}(h:O0 W kv ks k l Y w'):dU (fun b=>kv.ownBlock=some b) W w':=by
 match l,h with
 | [],h=>exact dU.of_below h
 | [v0],h=>exact dU.of_below h.1
 | [v1,_],h=>exact h.1
theorem All.TW {B:Nat}{w0 w:World}{l:List Ob}(h:All B w0 l w):All 0 w l w:=⟨h.P,h.apart,fun _ _ _ _=>aZ _,ak 0 w,aZ _⟩
theorem BP {P:Program}{t ty e:TypeId}{size bytes:Nat}(hT:ET P t e size bytes){B:Nat}{w0 w:World}(l1:List Ob){l2:List Ob}{dv:Value}{n:Nat}{xs:List Value}
  (h:All B w0 (l1 ++ sl e size dv n xs :: l2) w){sv:Value}{m:Nat}{ys:List Value}(hs:Own w e size sv m ys)(h1:∀u∈ys,u.oneCell'=true)(hlen:n+m≤1000000000)(hby:bytes≤1000) :
  ∃v' w',(Builtin.append_ #[t,t] ty #[dv,sv]).run P w=.ok v' w'∧All B w0 (l1 ++ sl e size v' (n+m) (xs ++ ys) :: l2) w'∧(v'.ownBlock=dv.ownBlock∨v'.ownBlock=some w.heap.size)∧dU (fun k=>dv.ownBlock=some k) w w':=by
 obtain⟨i,z,hi,hz0,hz1,hz2,hz3⟩:=hT.info
 have hown:Own w e size dv n xs:=h.mid
 rcases hs.2 with ⟨rfl,rfl⟩ | ⟨g,cap,cur,rfl,_⟩
 ·have hy:ys=[]:=nO.1 (by rw [hs.1];omega)
  subst hy
  refine⟨dv,w,run_append_owned_none w 0 t ty e i size hT.under hi dv n xs hown,?_,.inl rfl,dU.refl _ _⟩
  rw [aT]
  exact h
 ·have hmul:(n+m)*bytes≤1000000000*1000:=WR hlen hby
  obtain⟨v',w',hr,h2,h3,_,h5⟩:=ve (P:=P) w 0 t ty e i z size bytes hT.under hi hz0 hz1 hz2 hz3 hT.pos dv n xs hown ⟨g,0,none⟩ m cap ys hs.1 (iM hs) h1 (by unfold maxLen;omega) (by omega) (aZ _)
  refine⟨v',w',hr,h.step l1 (o':=sl e size v' (n+m) (xs ++ ys)) h2 ((dU.refl _ _).grown h3 (fun k hk _=>hk)) ?_,h5,(dU.refl _ _).grown h3 (fun k e _=>e)⟩
  intro k hk
  have hk':v'.ownBlock=some k:=hk
  rcases h5 with h5 | h5
  ·exact .inl (show dv.ownBlock=some k by rw [← h5];exact hk')
  ·right
   rw [h5] at hk'
   have:=cO hk'
   omega
theorem qE {P:Program}{t ty e:TypeId}{size bytes:Nat}(hT:ET P t e size bytes){B:Nat}{w:World}{dv:Value}{n:Nat}{xs:List Value}(hown:w.ownsRow B e size dv n xs)(hB:B≤w.heap.size)
  {g m cap:Nat}{ys:List Value}(hs:Own w e size (.slice (some ⟨g,0,none⟩) m cap) m ys)(h1:∀u∈ys,u.oneCell'=true)(hlen:n+m≤1000000000)(hby:bytes≤1000) :
  ∃v' w',(Builtin.append_ #[t,t] ty #[dv,.slice (some ⟨g,0,none⟩) m cap]).run P w=.ok v' w'∧w'.ownsRow B e size v' (n+m) (xs ++ ys)∧w.grownBy w' dv.ownBlock∧(v'.ownBlock=dv.ownBlock∨v'.ownBlock=some w.heap.size):=by
 obtain⟨i,z,hi,hz0,hz1,hz2,hz3⟩:=hT.info
 have hmul:(n+m)*bytes≤1000000000*1000:=WR hlen hby
 obtain⟨v',w',hr,h2,h3,_,h5⟩:=ve (P:=P) w B t ty e i z size bytes hT.under hi hz0 hz1 hz2 hz3 hT.pos dv n xs hown ⟨g,0,none⟩ m cap ys hs.1 (iM hs) h1 (by unfold maxLen;omega) (by omega) hB
 exact⟨v',w',hr,h2,h3,h5⟩
theorem rH {P:Program}{o:Oper}{a:Act}{w w':World}{t:TypeId}{s x:Operand}{dv sv v':Value}(ho:o.op=.call { callee:=.builtin .append,args:=#[s,x],argTypes:=#[t,t] })(hd:a.eval s=dv)(hx:a.eval x=sv)
  (hr:(Builtin.append_ #[t,t] o.type #[dv,sv]).run P w=.ok v' w'):(execOp a.eval o).run P w=.ok (.value v') w':=by
 unfold execOp
 simp only [ho,resolve,invoke,builtin,WU,Sem.run_pure,Result.andThen_ok,vk,fE,jZ,hd,hx,hr]
theorem All.VG {Q:Nat}{nv:Value}{X:List MX}{w:World}(h:jC Q nv X w)(cs:List Value)(t:TypeId):All 0 w [ui Q nv X,bk w.heap.size cs t] (w.alloc (.cells cs.toArray t)):=by
 refine⟨?_,?_,fun o ho k hk=>aZ _,((ak w.heap.size w).alloc (au _) _).mono (aZ _),aZ _⟩
 ·intro o ho
  simp only [bn,iH,rP] at ho
  rcases ho with rfl | rfl
  ·exact h.below ((ak w.heap.size w).alloc (au _) _)
  ·exact dD.new w cs t
 ·rw [lS]
  refine⟨fun y hy k h1 h2=>?_,by simp⟩
  simp only [eF] at hy
  subst hy
  have:=(ui Q nv X).here w h k h1
  rw [show k=w.heap.size from h2] at this
  omega
def Vu (M0:List MN)(deep:Bool)(f i:Nat)(m:MN)(Q g cap:Nat)(X:List MX)(w:World)(par:Option Nat)(e:Ending)(w':World):Prop :=
 ∃X' g' cap',ms X'=Ir (ms X) par X.length ++ (if deep then(dR (kM M0) f i).map (OW M0 (vM (dR (kM M0) f i) X.length) i par) else [⟨m.kind,m.name,m.attrs,m.data,par,[],false⟩])∧(∃v,e=.returned v)∧(∀y,y < M0.length→X'[y]? = X[y]?) ∧
  fU Q (.slice (some ⟨g,0,none⟩) X.length cap) X w (.slice (some ⟨g',0,none⟩) X'.length cap') X' w'
theorem Oe {M0:List MN}{D:Nat→Nat}(hW:MW M0 D)(hN:∀f i m,lv M0 i=some m→(dR (kM M0) f i).Nodup)(hN2:∀f i m,lv M0 i=some m→(dR (kM M0) f i).length≤10000)(ha:∀i m,lv M0 i=some m→m.attrs.length≤10000)(deep:Bool):∀(f i:Nat) (m:MN),lv M0 i=some m→128 - D i=f →
  ∀(Q g cap:Nat) (X:List MX) (w:World) (par:Option Nat),jC Q (.slice (some ⟨g,0,none⟩) X.length cap) X w→(∀(x:Nat) (y:MN),lv M0 x=some y→(ms X)[x]? = some y)→M0.length≤X.length→X.length+(if deep then(dR (kM M0) f i).length else 1)≤20000→(∀p,par=some p→M0.length≤p∧p < X.length∧∀y,X[p]? = some y→y.m.kids.length≤1000000) →
  Calls Tryz.prog 123 #[.pointer (some ⟨Q,0,none⟩),.int .i64 (i:Int),.int .i64 (pI par),.bool deep] w (Vu M0 deep f i m Q g cap X w par):=by
 intro f
 induction f using Nat.strongRecOn with
 | ind f ih =>
  intro i m hi hf Q g cap X w par h hO hle hbd hpar
  have hiX:=hO i m hi
  rw [vS,bJ] at hiX
  obtain⟨x,hx,hxm⟩:=hiX
  have hil:=(ai.1 hx).1
  have hal:=ha i m hi
  rw [← hxm] at hal
  have lq:=h.W.blk.lt
  have lg:=CU h
  have cN:∀j,j < 7→w.cell? ⟨g,i*7+j,none⟩=(qZ x)[j]?:=fun j hj=>h.W.cell hx j hj
  have n0:=cN 0 (by omega)
  have n1:=cN 1 (by omega)
  have n2:=cN 2 (by omega)
  have n3:=cN 3 (by omega)
  have n4:=cN 4 (by omega)
  have n5:=cN 5 (by omega)
  have n6:=cN 6 (by omega)
  rw [Nat.add_zero] at n0
  obtain⟨aa,ac,hav⟩:=h.W.Ip (ah hx)
  obtain⟨ka,kc,hkv⟩:=h.W.Lh (ah hx)
  simp only [qZ,fQ,fP,hav,hkv,dA] at n0 n1 n2 n3 n4 n5 n6
  have q0:=h.W.ptr
  have hbd1:X.length≤20000:=by omega
  have hwp:=CB (kM M0) f i
  have HAV:=ae hav
  have HKV:=ae hkv
  have H0:=ae h
  have HX:=ae hx
  have HPar:=ae hpar
  have HO:=ae hO
  have HIh:=ae ih
  have HW:=ae hW
  have HXm:=ae hxm
  have Hi:=ae hi
  clear h hx hpar hO ih cN hav hkv hxm hi
  go_enter Tryz.func123,Tryz.ntmps123
  go_upto_region 2 with fail
  have hA1:=All.VG H0.out [.int .i64 x.m.kind,.string ⟨x.m.name.toArray⟩,.slice aa x.m.attrs.length ac,.string ⟨x.m.data.toArray⟩,.int .i64 (pI x.m.par),.slice ka x.m.kids.length kc,.bool x.m.gone] 81
  have hbW:Below w.heap.size w (w.alloc (.cells #[.int .i64 x.m.kind,.string ⟨x.m.name.toArray⟩,.slice aa x.m.attrs.length ac,.string ⟨x.m.data.toArray⟩,.int .i64 (pI x.m.par),.slice ka x.m.kids.length kc,.bool x.m.gone] 81)):=(ak _ _).alloc (au _) _
  change All 0 w _ (w.alloc (.cells #[.int .i64 x.m.kind,.string ⟨x.m.name.toArray⟩,.slice aa x.m.attrs.length ac,.string ⟨x.m.data.toArray⟩,.int .i64 (pI x.m.par),.slice ka x.m.kids.length kc,.bool x.m.gone] 81)) at hA1
  have hsW:(w.alloc (.cells #[.int .i64 x.m.kind,.string ⟨x.m.name.toArray⟩,.slice aa x.m.attrs.length ac,.string ⟨x.m.data.toArray⟩,.int .i64 (pI x.m.par),.slice ka x.m.kids.length kc,.bool x.m.gone] 81)).heap.size=w.heap.size+1:=by simp
  generalize w.alloc (.cells #[.int .i64 x.m.kind,.string ⟨x.m.name.toArray⟩,.slice aa x.m.attrs.length ac,.string ⟨x.m.data.toArray⟩,.int .i64 (pI x.m.par),.slice ka x.m.kids.length kc,.bool x.m.gone] 81)=W at *
  have HA1:=ae hA1
  have HBW:=ae hbW
  have hMW:jC Q (.slice (some ⟨g,0,none⟩) X.length cap) X W:=hA1.head
  have HMW:=ae hMW
  have e0:=hMW.W.ptr
  obtain⟨⟨b0,b1,b2,b3,b4,b5,b6⟩,zf⟩:=mM (show dD W w.heap.size [_,_,_,_,_,_,_] _ from hA1.tail.head)
  have lqW:=hMW.W.blk.lt
  have lrW:w.heap.size < W.heap.size:=by omega
  clear hsW
  have hQr:Q≠w.heap.size:=by omega
  have hQg:Q≠g:=fun e=>by
   have h1:=H0.out.W.blk
   obtain⟨cg,hg⟩:=dF H0.out.W.row (b:=g) rfl
   rw [e] at h1
   exact dw h1 hg (by decide) rfl
  have HAw:=ae (show ∀wx,jC Q (.slice (some ⟨g,0,none⟩) X.length cap) X wx→Own wx 92 2 (.slice aa x.m.attrs.length ac) x.m.attrs.length (cu x.m.attrs) from fun wx h2=>by
   have h3:=h2.W.sF x (ah HX.out)
   rw [HAV.out] at h3
   exact h3)
  have hcx:qZ x=[.int .i64 x.m.kind,.string ⟨x.m.name.toArray⟩,.slice aa x.m.attrs.length ac,.string ⟨x.m.data.toArray⟩,.int .i64 (pI x.m.par),.slice ka x.m.kids.length kc,.bool x.m.gone]:=by simp only [qZ,HAV.out,HKV.out,dA]
  have HCx:=ae hcx
  generalize hR:bk w.heap.size [.int .i64 x.m.kind,.string ⟨x.m.name.toArray⟩,.slice aa x.m.attrs.length ac,.string ⟨x.m.data.toArray⟩,.int .i64 (pI x.m.par),.slice ka x.m.kids.length kc,.bool x.m.gone] 81=R at *
  have hS1:∀k Y wx,ND Q g cap X W x par R k Y wx→TL Q g cap X.length w.heap.size x aa ac wx:=by
   intro k Y wx hC
   obtain⟨h1,h2⟩:=ND.facts hC
   subst hR
   obtain⟨⟨b0,b1,b2,b3,b4,b5,b6⟩,_⟩:=mM (show dD wx w.heap.size [_,_,_,_,_,_,_] _ from h2)
   exact⟨h1,b0,b1,b2,b3⟩
  have y0:∀x1:dS (TL Q g cap X.length w.heap.size x aa ac),x1.w.cell? ⟨Q,0,none⟩=some (.slice (some ⟨g,0,none⟩) X.length cap):=fun x1=>x1.h.1
  have y1:∀x1:dS (TL Q g cap X.length w.heap.size x aa ac),x1.w.cell? ⟨w.heap.size,0,none⟩=some (.int .i64 x.m.kind):=fun x1=>x1.h.2.1
  have y2:∀x1:dS (TL Q g cap X.length w.heap.size x aa ac),x1.w.cell? ⟨w.heap.size,1,none⟩=some (.string ⟨x.m.name.toArray⟩):=fun x1=>x1.h.2.2.1
  have y3:∀x1:dS (TL Q g cap X.length w.heap.size x aa ac),x1.w.cell? ⟨w.heap.size,2,none⟩=some (.slice aa x.m.attrs.length ac):=fun x1=>x1.h.2.2.2.1
  have y4:∀x1:dS (TL Q g cap X.length w.heap.size x aa ac),x1.w.cell? ⟨w.heap.size,3,none⟩=some (.string ⟨x.m.data.toArray⟩):=fun x1=>x1.h.2.2.2.2
  have hne:Nonempty (dS (TL Q g cap X.length w.heap.size x aa ac)):=⟨⟨W,e0,b0,b1,b2,b3⟩⟩
  have hC0:ND Q g cap X W x par R [] [] W.drew:=by
   subst hR
   exact⟨(All.TW HA1.out).drew,(ak _ _).drew⟩
  clear b0 b1 b2 b3 b4 b5 b6 zf e0 hA1 hbW hMW q0 n0 n1 n2 n3 n4 n5 n6
  refine RZ.sH ⟨TL Q g cap X.length w.heap.size x aa ac,ND Q g cap X W x par R,WL Q X.length x par,fun _ _=>undef,fun _=>[],fun _=>0⟩ 21 (by kernel_rfl) (by kernel_rfl) hS1 ND.alloc ND.perm hC0 ?_
  simp only [mD,mr,l9,lZ]
  repeat (first
   | (refine RZ.aN (by rfl) (by rfl) (fun K hK=>?_);go_big_quiet_step (fail);refine az ?_;refine hK.out _ ?_;clear hK K)
   | (refine RZ.aK (by rfl) ?_;simp only [Act.put,dL,dK,dJ]))
  refine RZ.Bz (by rfl) (by rfl) ⟨_,0,rfl⟩ ?_ ?_
  ·intro Y wx hx
   refine⟨.slice (some ⟨wx.heap.size,0,none⟩) 0 0,wx.alloc (.cells #[] 92),by go_simp,⟨_,rfl⟩,⟨?_,aV hx.2 ((ak _ _).alloc (au _) _)⟩,fun b hb=>by cases hb;exact hx.2.size⟩
   exact(hx.1.sN 92 2 0 [] rfl (by omega)).perm List.perm_middle.symm
  rintro v ⟨g0,rfl⟩
  simp only [Act.put,dL,dK,dJ]
  repeat (first
   | (refine RZ.aN (by rfl) (by rfl) (fun K hK=>?_);go_big_quiet_step (fail);refine az ?_;refine hK.out _ ?_;clear hK K)
   | (refine RZ.aK (by rfl) ?_;simp only [Act.put,dL,dK,dJ]))
  refine RZ.Bz (by rfl) (by rfl) ⟨_,none,0,rfl⟩ ?_ ?_
  ·intro Y wx hx
   have hM:jC Q (.slice (some ⟨g,0,none⟩) X.length cap) X wx:=hx.1.1.P (ui Q (.slice (some ⟨g,0,none⟩) X.length cap) X) (by simp)
   obtain⟨v',w',hr,hA,hb,hs⟩:=BP (ty:=79) Uw Y hx.1.1 (HAw.out wx hM) (sU _) (by omega) (by omega)
   simp only [List.nil_append,aJ] at hA
   obtain⟨va,vc,rfl⟩:=aW (show Own _ _ _ _ _ _ from hA.mid)
   refine⟨_,w',rH rfl rfl rfl hr,⟨va,vc,rfl⟩,⟨hA,hx.1.2.trans (hs.below hx.1.2.size (fun k e=>hx.2 k e))⟩,fun b hb'=>?_⟩
   rcases hb with e | e
   ·exact hx.2 b (e ▸ hb')
   ·rw [e] at hb';cases hb';exact hx.1.2.size
  rintro v ⟨va,vc,rfl⟩
  simp only [Act.put,dL,dK,dJ]
  repeat (first
   | (refine RZ.aN (by rfl) (by rfl) (fun K hK=>?_);go_big_quiet_step (fail);refine az ?_;refine hK.out _ ?_;clear hK K)
   | (refine RZ.aK (by rfl) ?_;simp only [Act.put,dL,dK,dJ]))
  refine RZ.Bz (by rfl) (by rfl) ⟨_,0,rfl⟩ ?_ ?_
  ·intro Y wx hx
   refine⟨.slice (some ⟨wx.heap.size,0,none⟩) 1 1,wx.alloc (.cells #[.int .i64 x.m.kind,.string ⟨x.m.name.toArray⟩,.slice va x.m.attrs.length vc,.string ⟨x.m.data.toArray⟩,.int .i64 (pI par),.slice none 0 0,.bool false] 81),by go_simp,⟨_,rfl⟩,⟨⟨hx.1.1.still ((ak _ _).alloc (au _) _),aV hx.1.2 ((ak _ _).alloc (au _) _)⟩,hx.2⟩,⟨_,rfl⟩,?_⟩
   exact jg (n:=1) (size:=7) (dD.new wx [.int .i64 x.m.kind,.string ⟨x.m.name.toArray⟩,.slice va x.m.attrs.length vc,.string ⟨x.m.data.toArray⟩,.int .i64 (pI par),.slice none 0 0,.bool false] 81) rfl (by omega)
  rintro v ⟨g2,rfl⟩
  simp only [Act.put,dL,dK,dJ]
  repeat (first
   | (refine RZ.aN (by rfl) (by rfl) (fun K hK=>?_);go_big_quiet_step (fail);refine az ?_;refine hK.out _ ?_;clear hK K)
   | (refine RZ.aK (by rfl) ?_;simp only [Act.put,dL,dK,dJ]))
  refine RZ.Bz (by rfl) (by rfl) ⟨_,none,0,rfl⟩ ?_ ?_
  ·intro Y wx hx
   obtain⟨⟨⟨hA,hsx⟩,hfr⟩,_,hown⟩:=hx
   have hM:jC Q (.slice (some ⟨g,0,none⟩) X.length cap) X wx:=hA.P (ui Q (.slice (some ⟨g,0,none⟩) X.length cap) X) (by simp)
   obtain⟨v',w',hr,ho,hg,hb⟩:=qE (ty:=82) VI (B:=0) hM.W.row (aZ _) hown (KZ ⟨_,_,_,rfl⟩ ⟨_,_,_,rfl⟩) (by omega) (by omega)
   obtain⟨na,nc,rfl⟩:=bP ho
   have hch:dU (fun k=>k=g) wx w':=(dU.refl (fun k=>k=g) wx).grown hg (fun k e _=>by cases e;rfl)
   refine⟨_,w',rH rfl rfl rfl hr,⟨na,nc,rfl⟩,⟨?_,ho,?_,?_,?_,?_⟩,hfr⟩
   ·exact hM.W.blk.qU hch (fun e=>hQg e)
   ·exact MK hA.mid hch (fun b hb' e=>by
     obtain⟨cur,hcur⟩:=dF (show Own wx _ _ _ _ _ from hA.mid) hb'
     obtain⟨cg,hcg⟩:=dF hM.W.row (b:=g) rfl
     rw [show b=g from e,hcg] at hcur;cases hcur)
   ·subst hR
    have hr':dD wx w.heap.size _ _:=hA.P (bk w.heap.size [.int .i64 x.m.kind,.string ⟨x.m.name.toArray⟩,.slice aa x.m.attrs.length ac,.string ⟨x.m.data.toArray⟩,.int .i64 (pI x.m.par),.slice ka x.m.kids.length kc,.bool x.m.gone] 81) (by simp)
    exact hr'.qU hch (fun e=>by have:w.heap.size=g:=e;omega)
   ·exact(dU.of_below hsx).trans hch (fun _ _ e=>e)
   ·rcases hb with e | e
    ·exact .inl e
    ·exact .inr (fun b hb'=>by rw [e] at hb';cases hb';exact hsx.size)
  rintro v ⟨na,nc,rfl⟩
  simp only [Act.put,dL,dK,dJ]
  repeat (first
   | (refine RZ.aN (by rfl) (by rfl) (fun K hK=>?_);go_big_quiet_step (fail);refine az ?_;refine hK.out _ ?_;clear hK K)
   | (refine RZ.aK (by rfl) ?_;simp only [Act.put,dL,dK,dJ]))
  refine RZ.eH ?_
  intro w5 hC5
  obtain⟨hF,hfr⟩:=hC5
  have q5:w5.cell? ⟨Q,0,none⟩=some (.slice (some ⟨g,0,none⟩) X.length cap):=hF.blk.cell 0
  have qf5:w5.frozen? ⟨Q,0,none⟩=false:=hF.blk.free 0
  obtain⟨g',hg'⟩:∃g',na=some ⟨g',0,none⟩:=by
   rcases hF.row.2 with ⟨e,_⟩ | ⟨g',cap',cur,e,_⟩
   ·simp only [bD] at e;omega
   ·simp only [bD] at e;exact⟨g',e.1⟩
  subst hg'
  have hgQ':g'≠Q:=fun e=>by
   obtain⟨cur,hcur⟩:=dF hF.row (b:=g') rfl
   exact dw hcur hF.blk (by decide) e
  have hch6:dU (fun k=>k=Q∨(Value.slice (some ⟨g,0,none⟩) X.length cap).ownBlock=some k) W (w5.setCell ⟨Q,0,none⟩ (.slice (some ⟨g',0,none⟩) (X.length+1) nc)):=(hF.qU.mono (fun k _ e=>.inr (by rw [show k=g from e];rfl))).setCell ⟨Q,0,none⟩ (fun _=>.inl rfl) _
  have hM6:=He HMW.out (Vy x par (.slice va x.m.attrs.length vc)) hch6 (hF.blk.set 0 (.slice (some ⟨g',0,none⟩) (X.length+1) nc)) (iO hF.row (fun b hb=>aF _ _ _ _ (by cases hb;exact hgQ')))
   (hF.new.imp id id) (iO hF.sF (fun b hb=>aF _ _ _ _ (fun e=>by
    obtain⟨cur,hcur⟩:=dF hF.sF hb
    rw [show b=Q from e] at hcur
    exact dw hcur hF.blk (by decide) rfl))) (aG _ _ _ _) hfr (fun b hb=>by cases hb)
  obtain⟨X1,hX1⟩:∃X1,X1=X ++ [Vy x par (.slice va x.m.attrs.length vc)]:=⟨_,rfl⟩
  have hlen6:X1.length=X.length+1:=by rw [hX1];simp
  rw [← hX1,← hlen6] at hM6
  have hms1:ms X1=ms X ++ [⟨x.m.kind,x.m.name,x.m.attrs,x.m.data,par,[],false⟩]:=by rw [hX1];unfold ms;rw [ig];rfl
  have hA6:=hM6.all HA1.out
  have HM6:=ae ((fU.refl H0.out HBW.out).trans hM6)
  have HA6:=ae hA6
  have HMs1:=ae hms1
  have HX1:=ae hX1
  clear hF hfr hgQ' hch6 hM6 hA6 hms1 hX1 y0 y1 y2 y3 y4 hne hC0 hS1
  go_upto_if 45 with fail
  rw [← hlen6]
  clear q5 qf5
  generalize w5.setCell ⟨Q,0,none⟩ (.slice (some ⟨g',0,none⟩) X1.length nc)=w6 at *
  go_cut [] (fun wx=>∃X2 g2 cap2,ms X2=Ir (ms X) par X.length ++ [⟨x.m.kind,x.m.name,x.m.attrs,x.m.data,par,[],false⟩]∧fU Q (.slice (some ⟨g,0,none⟩) X.length cap) X w (.slice (some ⟨g2,0,none⟩) X2.length cap2) X2 wx∧All 0 w [ui Q (.slice (some ⟨g2,0,none⟩) X2.length cap2) X2,R] wx∧∀y,y < M0.length→X2[y]? = X[y]?)
  case first =>
   cases par with
   | none =>
    rw [show pI none=-1 from rfl]
    go_wp2_with fail
    go_meet
    exact⟨X1,g',nc,HMs1.out,HM6.out,HA6.out,fun y hy=>by rw [HX1.out,di (by omega)]⟩
   | some p =>
    rw [show pI (some p)=(p:Int) from rfl]
    obtain⟨hp1,hp2,hp3⟩:=HPar.out p rfl
    obtain⟨xp,hxp⟩:∃xp,X[p]? = some xp:=⟨_,ay hp2⟩
    have hxp1:X1[p]? = some xp:=by rw [HX1.out,di hp2];exact hxp
    have hM6:=HM6.out.at_
    obtain⟨kpa,kpc,hkp⟩:=hM6.W.Lh (ah hxp1)
    have hkl:xp.m.kids.length≤1000000:=hp3 xp hxp
    clear hp3
    have q0:=hM6.W.ptr
    have q5:=hM6.W.cell hxp1 5 (by omega)
    simp only [qZ,fQ,fP,hkp] at q5
    have hok:Own w6 3 1 (.slice kpa xp.m.kids.length kpc) xp.m.kids.length (kC xp.m.kids):=by
     have:=hM6.W.kid xp (ah hxp1)
     rw [hkp] at this
     exact this
    have hkb:∀b,(Value.slice kpa xp.m.kids.length kpc).ownBlock=some b→b < w6.heap.size∧b≠Q∧b≠g':=fun b hb=>by
     obtain⟨cur,hcur⟩:=dF hok hb
     refine⟨gp hcur,fun e=>?_,fun e=>?_⟩
     ·subst e;exact dw hcur hM6.W.blk (by decide) rfl
     ·subst e;obtain⟨cg,hcg⟩:=dF hM6.W.row (b:=b) rfl;rw [hcg] at hcur;cases hcur
    have lQ6:=hM6.W.blk.lt
    have lg6:=jy hM6.W.row (k:=g') rfl
    have hlp1:p < X1.length:=by omega
    have HLen6:=ae hlen6
    have hx1l:X1.length≤20001:=by omega
    clear hlen6
    have HMz:=ae hM6
    have HXp:=ae hxp1
    have HKp:=ae hkp
    have uY:=ae hok
    have HXp0:=ae hxp
    clear hM6 hxp1 hkp hxp
    have hS4:∀k Y wx,O0 w6 (.slice kpa xp.m.kids.length kpc) xp.m.kids X.length k Y wx→Vr Q g' X1.length nc p (.slice kpa xp.m.kids.length kpc) wx:=by
     intro k Y wx hC
     have hc:=hC.qU
     have eQ:=hc.block Q lQ6 (fun e=>(hkb Q e).2.1 rfl)
     have eg:=hc.block g' lg6 (fun e=>(hkb g' e).2.2 rfl)
     exact⟨by rw [← q0];simp [World.cell?,eQ],by rw [← q5];simp [World.cell?,eg]⟩
    have y0:∀x1:dS (Vr Q g' X1.length nc p (.slice kpa xp.m.kids.length kpc)),x1.w.cell? ⟨Q,0,none⟩=some (.slice (some ⟨g',0,none⟩) X1.length nc):=fun x1=>x1.h.1
    have y1:∀x1:dS (Vr Q g' X1.length nc p (.slice kpa xp.m.kids.length kpc)),x1.w.cell? ⟨g',p*7+5,none⟩=some (.slice kpa xp.m.kids.length kpc):=fun x1=>x1.h.2
    have hne:Nonempty (dS (Vr Q g' X1.length nc p (.slice kpa xp.m.kids.length kpc))):=⟨⟨w6,q0,q5⟩⟩
    clear q0 q5
    have hge:decide ((0:Int)≤(p:Int))=true:=by simp
    try rw [hge]
    go_wp2_with fail
    try simp only [hge]
    refine RZ.sH ⟨Vr Q g' X1.length nc p (.slice kpa xp.m.kids.length kpc),O0 w6 (.slice kpa xp.m.kids.length kpc) xp.m.kids X.length,WA xp.m.kids.length,fun _ _=>undef,fun _=>[],fun _=>0⟩ 18 (by kernel_rfl) (by kernel_rfl) hS4 O0.alloc O0.perm ((ak _ _).drew) ?_
    have HKb:=ae hkb
    clear hS4 hkb hok
    simp only [mD,mr,l9,lZ]
    repeat (first
     | (refine RZ.aN (by rfl) (by rfl) (fun K hK=>?_);go_big_quiet_step (fail);refine az ?_;refine hK.out _ ?_;clear hK K)
     | (refine RZ.aK (by rfl) ?_;simp only [Act.put,dL,dK,dJ]))
    refine RZ.Bz (by rfl) (by rfl) ⟨_,0,rfl⟩ ?_ ?_
    ·intro Y wx hx
     refine⟨.slice (some ⟨wx.heap.size,0,none⟩) 1 1,wx.alloc (.cells #[.int .i64 (X.length:Int)] 3),by go_simp,⟨_,rfl⟩,aV hx ((ak _ _).alloc (au _) _),⟨_,rfl⟩,?_⟩
     exact jg (n:=1) (size:=1) (dD.new wx [.int .i64 (X.length:Int)] 3) rfl (by omega)
    rintro v ⟨gk,rfl⟩
    simp only [Act.put,dL,dK,dJ]
    repeat (first
     | (refine RZ.aN (by rfl) (by rfl) (fun K hK=>?_);go_big_quiet_step (fail);refine az ?_;refine hK.out _ ?_;clear hK K)
     | (refine RZ.aK (by rfl) ?_;simp only [Act.put,dL,dK,dJ]))
    refine RZ.Bz (by rfl) (by rfl) ⟨_,none,0,rfl⟩ ?_ ?_
    ·intro Y wx hx
     obtain⟨hbx,_,hown⟩:=hx
     obtain⟨v',w',hr,ho,hg,hb⟩:=qE (ty:=31) sS (B:=0) (bH uY.out hbx) (aZ _) hown (AV [X.length]) (by omega) (by omega)
     obtain⟨na,nc2,rfl⟩:=bP ho
     refine⟨_,w',rH rfl rfl rfl hr,⟨na,nc2,rfl⟩,?_,?_,?_⟩
     ·exact(dU.of_below hbx).trans ((dU.refl (fun b=>(Value.slice kpa xp.m.kids.length kpc).ownBlock=some b) wx).grown hg (fun k e _=>e)) (fun _ _ e=>e)
     ·have h9:Own w' _ _ _ _ _:=ho
      rw [show([.int .i64 (X.length:Int)]:List Value)=kC [X.length] from rfl,Ll] at h9
      exact h9
     ·rcases hb with e | e
      ·exact .inl e
      ·exact .inr (fun b hb'=>by rw [e] at hb';cases hb';exact hbx.size)
    rintro v ⟨na,nc2,rfl⟩
    simp only [Act.put,dL,dK,dJ]
    repeat (first
     | (refine RZ.aN (by rfl) (by rfl) (fun K hK=>?_);go_big_quiet_step (fail);refine az ?_;refine hK.out _ ?_;clear hK K)
     | (refine RZ.aK (by rfl) ?_;simp only [Act.put,dL,dK,dJ]))
    refine RZ.eH ?_
    intro w7 hC7
    obtain⟨hch,hown,hvb⟩:=hC7
    have hM7z:=HMz.out
    have eQ:=hch.block Q lQ6 (fun e=>(HKb.out Q e).2.1 rfl)
    have eg:=hch.block g' lg6 (fun e=>(HKb.out g' e).2.2 rfl)
    have r0:w7.cell? ⟨Q,0,none⟩=some (.slice (some ⟨g',0,none⟩) X1.length nc):=by rw [← hM7z.W.ptr];simp [World.cell?,eQ]
    have r5:w7.cell? ⟨g',p*7+5,none⟩=some (.slice kpa xp.m.kids.length kpc):=by
     have:=hM7z.W.cell HXp.out 5 (by omega)
     simp only [qZ,fQ,fP,HKp.out] at this
     rw [← this];simp [World.cell?,eg]
    have rf:w7.frozen? ⟨g',p*7+5,none⟩=false:=by
     have:=hM7z.W.Ou (p*7+5)
     rw [← this];simp [World.frozen?,eg]
    have hpk:=hM7z.Ro HXp.out (HKp.out ▸ hch) (.slice na (xp.m.kids.length+1) nc2) (xp.m.kids ++ [X.length]) (by rw [aA,List.length_singleton];exact hown) (by rw [HKp.out];exact hvb)
    have HPk:=ae hpk
    clear hch hown hvb hM7z eQ eg hpk y0 y1 hne
    go_wp2_with fail
    go_meet
    refine⟨X1.set p { xp with kv:=.slice na (xp.m.kids.length+1) nc2,m:={ xp.m with kids:=xp.m.kids ++ [X.length] } },g',nc,?_,HM6.out.trans HPk.out,HPk.out.all HA6.out,fun y hy=>?_⟩
    ·rw [uh,HMs1.out]
     have h1:(ms X)[p]? = some xp.m:=by rw [vS,HXp0.out];rfl
     rw [QV h1,Xi _ _ (by rw [aY];exact hp2)]
    ·rw [jM (by omega),HX1.out,di (by omega)]
  case rest =>
   obtain⟨X2,g2,cap2,hms,hM,hA,hold⟩:=hcut
   obtain⟨ψ,hψ⟩:∃ψ,ψ = vM (dR (kM M0) f i) X.length:=⟨_,rfl⟩
   have hlenX2:X2.length=X.length+1:=by
    have:=bW List.length hms
    rw [aY,aA,vZ,aY] at this
    simpa using this
   have HMs2:=ae hms
   have HM2:=ae hM
   have HA2:=ae hA
   have HOld2:=ae hold
   have HΨ:=ae hψ
   have HLen2:=ae hlenX2
   clear hms hM hA hold hψ hlenX2 hlen6
   have hwe:=hW.Gw Hi.out hf
   have HWe:=ae hwe
   have hxk:x.m.kids=m.kids:=by rw [HXm.out]
   have HXk:=ae hxk
   clear hwe hxk
   generalize w5.setCell ⟨Q,0,none⟩ _=w6 at *
   go_wp2_with fail
   go_loopw [10] (fun iv wr=>∃(j:Nat) (X3:List MX) (g3 cap3:Nat),j≤x.m.kids.length∧(deep=false→j=0)∧iv=.int .i64 (j:Int)∧ms X3=Ir (ms X) par X.length ++ (⟨x.m.kind,x.m.name,x.m.attrs,x.m.data,par,(x.m.kids.take j).map ψ,false⟩ :: ((x.m.kids.take j).flatMap (dR (kM M0) (f - 1))).map (OW M0 ψ i par)) ∧
    fU Q (.slice (some ⟨g,0,none⟩) X.length cap) X w (.slice (some ⟨g3,0,none⟩) X3.length cap3) X3 wr∧All 0 w [ui Q (.slice (some ⟨g3,0,none⟩) X3.length cap3) X3,R] wr∧∀y,y < M0.length→X3[y]? = X[y]?) (fun iv _=>x.m.kids.length - iW iv)
   case atStart=>exact⟨0,X2,g2,cap2,by omega,fun _=>rfl,rfl,HMs2.out,HM2.out,HA2.out,HOld2.out⟩
   case round =>
    obtain⟨j,X3,g3,cap3,hj,hdj,rfl,hms,hM,hA,hold⟩:=hrel
    have hR3:=hA.tail.head
    subst hR
    obtain⟨⟨b0,b1,b2,b3,b4,b5,b6⟩,zf⟩:=mM (show dD wr w.heap.size [_,_,_,_,_,_,_] _ from hR3)
    have hiM:i < M0.length:=kH ⟨m,Hi.out⟩
    have hx3:X3[i]? = some x:=(hold i hiM).trans HX.out
    have hMd3:jC Q (.slice (some ⟨g3,0,none⟩) X3.length cap3) X3 wr:=hA.head
    have hlen3:X3.length=X.length+(1+((x.m.kids.take j).flatMap (dR (kM M0) (f - 1))).length):=by
     have:=bW List.length hms
     rw [aY,aA,vZ,aY,List.length_cons,bM] at this
     omega
    have HMs3:=ae hms
    have HM3:=ae hM
    have HA3:=ae hA
    have HOld3:=ae hold
    have HMd3:=ae hMd3
    have HLen3:=ae hlen3
    have HDj:=ae hdj
    have HX3:=ae hx3
    clear hms hM hA hold hR3 hMd3 hlen3 hdj hx3
    cases hdp:deep with
    | false =>
     have hj0:=HDj.out hdp
     subst hj0
     go_wp2_with fail
     (try simp only [Exit.inBlock,Exit.then])
     refine bodyPost_end (results_none rfl _ _ _) rfl ?_
     refine⟨X3,g3,cap3,?_,⟨_,rfl⟩,HOld3.out,HM3.out⟩
     rw [HMs3.out]
     simp only [List.take_zero,jZ,List.flatMap_nil,iV,iJ]
     rw [HXm.out]
    | true =>
     by_cases hjl:j < x.m.kids.length
     ·obtain⟨k,hk⟩:∃k,x.m.kids[j]? = some k:=⟨_,ay hjl⟩
      have hok:=HMd3.out.W.kid x (ah HX3.out)
      rw [HKV.out] at hok
      obtain⟨gk,rfl,ck⟩:=uu hok hk
      have hkm:m.kids[j]? = some k:=by rw [← HXk.out];exact hk
      obtain⟨mk,hmk,hpk⟩:=HW.out.kid i m k Hi.out (ah hkm)
      obtain⟨mi,hmi,_,hdd⟩:=HW.out.par k mk i hmk hpk
      have hlowk:=HW.out.low k mk hmk
      have hwl:((x.m.kids.take j).flatMap (dR (kM M0) (f - 1))).length+(dR (kM M0) (f - 1) k).length+1≤(dR (kM M0) f i).length:=by
       rw [HWe.out,List.length_cons,HXk.out]
       have h1:=iU hkm (dR (kM M0) (f - 1))
       have h2:((m.kids.take (j+1)).flatMap (dR (kM M0) (f - 1))).length≤(m.kids.flatMap (dR (kM M0) (f - 1))).length:=by
        conv=>rhs;rw [← bG (j+1) m.kids]
        rw [jT,aA]
        omega
       rw [h1,aA] at h2
       omega
      rw [hdp] at hbd
      simp only [oW] at hbd
      have hroot:(ms X3)[X.length]? = some ⟨x.m.kind,x.m.name,x.m.attrs,x.m.data,par,(x.m.kids.take j).map ψ,false⟩:=by
       rw [HMs3.out,bZ (by rw [vZ,aY];exact au _),vZ,aY,jY]
       rfl
      have HC:=ae (HIh.out (f - 1) (by omega) k mk hmk (by omega) Q g3 cap3 X3 wr (some X.length) HMd3.out (fun y z hyz=>by
        have h1:=HOld3.out y (kH ⟨z,hyz⟩)
        have h2:=HO.out y z hyz
        rw [vS] at h2 ⊢
        rw [h1];exact h2) (by have:=HLen3.out;omega) (by rw [hdp];simp only [oW];have:=HLen3.out;omega) (fun p hp=>by
        cases hp
        refine⟨hle,by have:=HLen3.out;omega,fun y hy=>?_⟩
        rw [vS,hy] at hroot
        have:=cO hroot
        have e9:y.m.kids=(x.m.kids.take j).map ψ:=by
         have h9:y.m=_:=this
         rw [h9]
        rw [e9,bM,fC]
        have:=HW.out.Lj Hi.out
        rw [← HXk.out] at this
        omega))
      rw [hdp] at HC
      simp only [pI] at HC
      have HK:=ae hk
      have HKm:=ae hkm
      have hjl2:(j:Int) < (x.m.kids.length:Int):=by omega
      have hklen:x.m.kids.length≤100000:=by have:=HW.out.Lj Hi.out;rw [← HXk.out] at this;exact this
      clear hk hkm hok hmk hpk hmi hdd hroot
      go_wp2_with fail
      refine HC.out.mono ?_
      rintro e w8 ⟨X4,g4,cap4,hms4,⟨v4,rfl⟩,hold4,hM4⟩
      simp only [oW] at hms4
      have HMs4:=ae hms4
      have HM4:=ae hM4
      have HOld4:=ae hold4
      clear hms4 hM4 hold4 ck b0 b1 b2 b3 b4 b5 b6 zf
      go_wp2_with fail
      refine⟨⟨j+1,X4,g4,cap4,by omega,(fun e=>by cases e),by first | rfl | simp,?_,HM3.out.trans HM4.out,HM4.out.all HA3.out,fun y hy=>(HOld4.out y hy).trans (HOld3.out y hy)⟩,by simp only [iW];omega⟩
      have hlk:X3.length=X.length+1+((m.kids.take j).flatMap (dR (kM M0) (f - 1))).length:=by rw [HLen3.out,HXk.out];omega
      have hpsi:ψ k=X3.length:=by
       obtain⟨r,hr⟩:=Dh (kM M0) (f - 1) k
       rw [HΨ.out,MI HW.out hN Hi.out hf HKm.out (by rw [hr];simp),hlk,hr,MH]
      rw [HMs4.out,HMs3.out,QW _ _ X.length X3.length (by rw [vZ,aY]),bu,List.cons_append]
      congr 1
      have e1:=iU HK.out (dR (kM M0) (f - 1))
      rw [e1,ig,fJ,HK.out]
      congr 1
      ·congr 1
       rw [ig,hpsi.symm];rfl
      ·congr 1
       rw [hlk,HΨ.out]
       exact UI HW.out hN Hi.out hf HKm.out
     ·obtain rfl:j=x.m.kids.length:=by omega
      have hjl2:¬(x.m.kids.length:Int) < (x.m.kids.length:Int):=by omega
      go_wp2_with fail
      (try simp only [Exit.inBlock,Exit.then])
      refine bodyPost_end (results_none rfl _ _ _) rfl ?_
      refine⟨X3,g3,cap3,?_,⟨_,rfl⟩,HOld3.out,HM3.out⟩
      rw [HMs3.out,dE]
      simp only [oW]
      rw [← HΨ.out,HWe.out,HXk.out,fE]
      congr 2
      unfold OW
      rw [vP Hi.out,aC rfl,HXm.out]
end Go.Proofs.YtfelmdkeaacfeaaGreatDoor.W
end
section
namespace Go.Proofs.YtfelmdkeaacfeaaGreatDoor.W
open Go.RowKit
attribute [local go_sem] Oper.semAt_some
theorem yN {F:Fence}{n0:Nat}{P:Program}{t e:TypeId}{size bytes:Nat}(hT:ET P t e size bytes){B:Nat}{w:World}{dv:Value}{n:Nat}{xs:List Value}(hown:w.ownsRow B e size dv n xs)(hB:B≤w.heap.size)
  {g m cap:Nat}{ys:List Value}(hs:Own w e size (.slice (some ⟨g,0,none⟩) m cap) m ys)(h1:∀u∈ys,u.oneCell'=true)(hlen:n+m≤1000000000)(hby:bytes≤1000)
  {ops:Array Oper}{rest:List Oper}{o:Oper}{a:Act}{Q:Exit→Act→World→Prop}(hg:o.guard=none)(s x:Operand)(hop:o.op=Op.call { callee:=Callee.builtin Builtin.append,args:=#[s,x],argTypes:=#[t,t] })(hd:a.eval s=dv)(hx:a.eval x=.slice (some ⟨g,0,none⟩) m cap)
  (hK:∀v' w',w'.ownsRow B e size v' (n+m) (xs ++ ys)→w.grownBy w' dv.ownBlock→(v'.ownBlock=dv.ownBlock∨v'.ownBlock=some w.heap.size)→wpListIn F n0 P ops Q rest (a.put o.dst v') w') :
  wpListIn F n0 P ops Q (o :: rest) a w:=by
 refine wpListIn_plain hg fun K hK'=>?_
 obtain⟨v',w',hrun,r1,r2,r3⟩:=qE (ty:=o.type) hT hown hB hs h1 hlen hby
 unfold Oper.wpIn
 refine⟨?_,?_⟩
 ·simp [Oper.about,hop,resolve,Target.leads,Sem.run_pure]
 ·rw [Oper.semAt_plain F _ _ (by rw [hop];intro c hc';cases hc')]
  simp [execOp,hop,resolve,invoke,builtin,hd,hx,hrun,Result.andThen]
  exact hK' _ _ (hK v' w' r1 r2 r3)
theorem EZ.Ue {b:Nat}{W:World}(l:Nat)(o o':Obj)(h:W.heap[l]? = some o)(ho:o.isCells=false)(hb:b≠l):EZ b W (W.putObj l o'):=by
 have hne:∀(k:Nat) (cs:Array Value) (t:TypeId) (fr:Nat×Nat),W.heap[k]? = some (Obj.cells cs t fr)→k≠l:=fun k cs t fr hk e=>by
  subst e;rw [hk] at h;cases h;cases ho
 refine⟨by simp,fun k cs t fr hk _ _=>(kV (hne k cs t fr hk)).trans hk,.inl ?_⟩
 unfold J3
 have e:(W.putObj l o').heap[b]? = W.heap[b]?:=kV hb
 unfold World.cell?
 simp only [e]
def VS (S:Tr)(w:World)(pre:List Nat)(W:World):Prop :=
 ∃v,dD W w.heap.size [v] 31∧W.ownsRow w.heap.size 3 1 v pre.length (hC (pre.map S.hd))∧Below w.heap.size w W
def U7 (x:Value)(a:Act):Act:={ tmps:=(a.tmps.setIfInBounds 7 x).setIfInBounds 5 x,defers:=[] }
theorem EX {xs:List Nat}{S:Tr}{w:World}{gf:Nat}{lb:Array Value}(eg:∀args w,(callFunc gf args).run Tryz.prog w=.ok (.enter gf args) w)(hN:xs.length≤1000000)
  (hseq:∀n,SeqStopsK Fence.wide n Tryz.prog gf lb (fun x:Nat=>#[Value.int .i64 (S.hd x)]) (EZ w.heap.size) (fun ys=>ys=xs) (fun _=>True) xs.length (w.alloc (.cells #[.slice none 0 0] 31))) :
  Calls Tryz.prog 111 #[.slice none 0 0,.func (.func gf) #[] lb] w fun e w'=>∃v,e=.returned v∧w'.ownsRow w.heap.size 3 1 v xs.length (hC (xs.map S.hd))∧Below w.heap.size w w':=by
 refine(jP (n:=8)).1 ?_
 refine zZ Tryz.func111 rfl trivial ?_ rfl
 simp only [Tryz.ntmps111,gZ,List.length_cons,List.length_nil,Nat.reduceAdd,Nat.reduceSub,ji,Array.replicate_zero,jS,jE,List.nil_append,List.cons_append]
 have k1:=dD.new w [.slice none 0 0] 31
 have hb1:=(ak w.heap.size w).alloc (au _) (.cells #[.slice none 0 0] 31)
 have hs1:w.heap.size < (w.alloc (.cells #[.slice none 0 0] 31)).heap.size:=by simp
 have HS:=ae (hseq 7)
 clear hseq
 gi_wp2
 refine xE (fun x=>U7 (.int .i64 (S.hd x))) (by omega) (gf:=gf) (lb:=lb) rfl eg HS.out EZ.trans (fun W l o o' hl h hc _=>EZ.Ue l o o' h hc (by omega)) (fun _=>rfl)
  (fun pre W=>VS S w pre W) (fun c pre W=>False) ?own (fun _ _ _ _ _ hs _ _=>hs) ⟨.slice none 0 0,k1,aG _ _ _ _,hb1⟩ ?assign ?body ?done ?stop
 case own =>
  intro pre W W' row hs hg hr
  obtain⟨v,hb,ho,hB⟩:=hs
  refine⟨v,Io hb hg hr,gW ho (fun k hk=>hg.block k (ho.lt k hk).2 (fun e=>?_)),hB.grown hg hB.size (fun k e=>by have:=(hr k e).1;omega)⟩
  obtain⟨_,o,h1,h2⟩:=hr k e.symm
  obtain⟨cur,hc⟩:=gJ ho hk
  rw [hc] at h1;cases h1;cases h2
 case assign =>
  intro l x W K hK
  gi_wp2
  exact hK
 case body =>
  intro l pre x W hI hlt
  obtain⟨v,hb,ho,hB⟩:=hI
  obtain⟨va,vc,rfl⟩:=bP ho
  have c0:=hb.cell 0
  have f0:=hb.free 0
  simp only [List.getElem?_cons_zero] at c0
  have hbl:=hb.lt
  have HO:=ae ho
  have HBx:=ae hb
  have HB:=ae hB
  have hlt2:pre.length < 1000000:=by omega
  clear hb ho hB hlt HS
  simp only [U7,dL,dK,dJ]
  have hb1:Below W.heap.size W (W.alloc (.cells #[.int .i64 (S.hd x)] 3)):=(ak _ _).alloc (au _) _
  gi_wp2_with (first
   | (gi_at_builtin;refine yN sS (fH HO.out hb1) (by simp;omega) (jg (n:=1) (size:=1) (dD.new W [.int .i64 (S.hd x)] 3) rfl (by omega)) (by intro u hu;simp at hu;subst hu;rfl) (by omega) (by omega) rfl _ _ rfl rfl rfl ?_;intro v' w2 ho2 hg2 hv2;
       obtain⟨va',vc',rfl⟩:=bP ho2;have kb2:=(dD.below HBx.out hb1).kept (hg2.block w.heap.size (by simp;omega) (fun e=>by
        obtain⟨cur,hc⟩:=gJ HO.out e.symm
        exact dw hc HBx.out (by decide) rfl));
       have d0:=kb2.cell 0;have e0:=kb2.free 0;simp only [List.getElem?_cons_zero] at d0;have HO2:=ae ho2;have HG2:=ae hg2;have HV2:=ae hv2;have HK2:=ae kb2;clear ho2 hg2 hv2 kb2)
   | gi_in)
  have hO1:=fH HO.out hb1
  have hg:=HG2.out
  have hw1:(W.alloc (.cells #[.int .i64 (S.hd x)] 3)).heap.size=W.heap.size+1:=by simp
  have kb3:=HK2.out.set 0 (.slice va' (pre.length+1) vc')
  simp only [List.set_cons_zero] at kb3
  have e1:J3 w.heap.size W=(Value.slice va pre.length vc).ownBlock:=by unfold J3;rw [c0];rfl
  have e3:J3 w.heap.size (w2.setCell ⟨w.heap.size,0,none⟩ (.slice va' (pre.length+1) vc'))=(Value.slice va' (pre.length+1) vc').ownBlock:=by
   unfold J3
   have:=kb3.cell 0
   simp only [List.getElem?_cons_zero] at this
   rw [this];rfl
  have hne2:∀k,(Value.slice va' (pre.length+1) vc').ownBlock=some k→k≠w.heap.size:=fun k hk e=>by
   obtain⟨cur,hc⟩:=gJ HO2.out hk
   subst e
   exact dw hc HK2.out (by decide) rfl
  refine⟨(pW hb1).trans (KeepsOthers.trans ⟨hg.size,fun k o hk ho=>(hg.block k (aX.1 hk).1 (fun e=>by
   obtain⟨cur,hc⟩:=gJ hO1 e.symm
   rw [hc] at hk;cases hk;cases ho)).trans hk⟩ (rq _ _ _)),⟨?_,?_,?_⟩,?_⟩
  ·have:=hg.size
   simp only [World.setCell,Array.size_modify]
   omega
  ·intro k cs t fr hk h1 h2
   rw [e1] at h2
   have hkl:=(aX.1 hk).1
   exact(aF _ _ _ _ h1).trans ((hg.block k (by omega) (fun e=>h2 e.symm)).trans ((hb1.block k hkl).trans hk))
  ·rw [e1,e3]
   rcases HV2.out with e | e
   ·exact .inl e
   ·refine .inr (fun k hk=>?_)
    rw [e] at hk
    cases hk
    refine⟨by omega,?_⟩
    have:=(HO2.out.lt _ e).2
    simpa [World.setCell] using this
  ·refine⟨.slice va' (pre.length+1) vc',kb3,?_,?_⟩
   ·rw [show(pre ++ [x]).length=pre.length+1 by simp,show hC ((pre ++ [x]).map S.hd)=hC (pre.map S.hd) ++ [.int .i64 (S.hd x)] by simp [hC]]
    exact gW HO2.out (fun k hk=>aF _ _ _ _ (hne2 k hk))
   ·exact((HB.out.alloc HB.out.size (.cells #[.int .i64 (S.hd x)] 3)).grown hg (by have:=HB.out.size;omega) (fun k e=>(hO1.lt k e).1)).setCell (p:=⟨w.heap.size,0,none⟩) (au _) _
 case done =>
  rintro D ys W hD rfl hI hK
  obtain⟨v,hb,ho,hB⟩:=hI
  obtain⟨va,vc,rfl⟩:=bP ho
  have c0:=hb.cell 0
  simp only [List.getElem?_cons_zero] at c0
  have HO:=ae ho
  have HB:=ae hB
  have HK:=ae hK
  have hDl:D < W.heap.size:=(aX.1 hK).1
  clear hb ho hB hK HS
  gi_wp2
  refine DL HK.out ?_
  refine⟨.slice va ys.length vc,?_,.slice va ys.length vc,rfl,gW HO.out (fun k hk=>kV (fun e=>?_)),Gm _ HB.out (by omega) hDl⟩
  ·simp [results,Tryz.f111,go_sem]
  ·obtain⟨cur,hc⟩:=gJ HO.out hk
   rw [e,HK.out] at hc
   cases hc
 case stop =>
  intro D c pre W hD hs hx
  cases hx
theorem BI {xs:List Nat}{S:Tr}{w:World}{gf:Nat}{lb:Array Value}(eg:∀args w,(callFunc gf args).run Tryz.prog w=.ok (.enter gf args) w)(hN:xs.length≤1000000)
  (hseq:∀n,SeqStopsK Fence.wide n Tryz.prog gf lb (fun x:Nat=>#[Value.int .i64 (S.hd x)]) (EZ w.heap.size) (fun ys=>ys=xs) (fun _=>True) xs.length (w.alloc (.cells #[.slice none 0 0] 31))) :
  Calls Tryz.prog 68 #[.func (.func gf) #[] lb] w fun e w'=>∃v,e=.returned v∧w'.ownsRow w.heap.size 3 1 v xs.length (hC (xs.map S.hd))∧Below w.heap.size w w':=by
 have H:=ae (EX eg hN hseq)
 clear hseq
 go_enter Tryz.func68,Tryz.ntmps68
 go_wp2_with fail
 refine H.out.mono ?_
 rintro e w2 ⟨v,rfl,ho,hb⟩
 go_wp2_with fail
 go_ret
 exact⟨v,rfl,ho,hb⟩
end Go.Proofs.YtfelmdkeaacfeaaGreatDoor.W
end
