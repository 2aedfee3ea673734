/- Texts joined: Mcpy. -/
import Derived.Test.YtfelmdkeaacfeaaGreatDoorTM1
import Derived.Test.YtfelmdkeaacfeaaGreatDoorTM20
import Derived.Test.YtfelmdkeaacfeaaGreatDoorTM27
import Derived.Deep.CutBlock
import Derived.Deep.DeepCutAuto
set_option maxRecDepth 100000
set_option maxHeartbeats 40000000
set_option linter.unusedVariables false
set_option linter.unusedSimpArgs false
section
namespace Go.Proofs.YtfelmdkeaacfeaaGreatDoor.W
open Go.RowKit
def CpS (Q g cap n r:Nat)(x:MX)(aa:Option Addr)(ac:Nat)(w':World):Prop :=
 w'.cell? ⟨Q,0,none⟩=some (.slice (some ⟨g,0,none⟩) n cap)∧w'.cell? ⟨r,0,none⟩=some (.int .i64 x.m.kind)∧w'.cell? ⟨r,1,none⟩=some (.string ⟨x.m.name.toArray⟩)∧w'.cell? ⟨r,2,none⟩=some (.slice aa x.m.attrs.length ac)∧w'.cell? ⟨r,3,none⟩=some (.string ⟨x.m.data.toArray⟩)
def cpX (x:MX)(par:Option Nat)(v1:Value):MX:=⟨⟨x.m.kind,x.m.name,x.m.attrs,x.m.data,par,[],false⟩,v1,.slice none 0 0⟩
structure CpFin (Q g cap:Nat) (X:List MX) (W:World) (x:MX) (par:Option Nat) (R:Ob) (v3 v1:Value) (w':World):Prop where
 blk:Blk w' Q [.slice (some ⟨g,0,none⟩) X.length cap] 84
 row:Own w' 81 7 v3 (X.length+1) (rows mxC X ++ mxC (cpX x par v1))
 att:Own w' 92 2 v1 x.m.attrs.length (attrC x.m.attrs)
 r:R.P w'
 chg:Chg (fun k=>k=g) W w'
 new:v3.ownBlock=some g∨∀b,v3.ownBlock=some b→W.heap.size≤b
def CpC (Q g cap:Nat)(X:List MX)(W:World)(x:MX)(par:Option Nat)(R:Ob):List Value→List Ob→World→Prop
 | [],Y,w'=>All 0 W (Y ++ [mdO Q (.slice (some ⟨g,0,none⟩) X.length cap) X,R]) w'∧Below W.heap.size W w'
 | [v0],Y,w'=>(All 0 W (Y ++ sl 92 2 v0 0 [] :: [mdO Q (.slice (some ⟨g,0,none⟩) X.length cap) X,R]) w'∧Below W.heap.size W w')∧∀b,v0.ownBlock=some b→W.heap.size≤b
 | [v1,_],Y,w'=>(All 0 W (Y ++ sl 92 2 v1 x.m.attrs.length (attrC x.m.attrs) :: [mdO Q (.slice (some ⟨g,0,none⟩) X.length cap) X,R]) w'∧Below W.heap.size W w')∧∀b,v1.ownBlock=some b→W.heap.size≤b
 | [v2,v1,_],Y,w'=>((All 0 W (Y ++ sl 92 2 v1 x.m.attrs.length (attrC x.m.attrs) :: [mdO Q (.slice (some ⟨g,0,none⟩) X.length cap) X,R]) w'∧Below W.heap.size W w')∧∀b,v1.ownBlock=some b→W.heap.size≤b)∧(∃g2,v2=.slice (some ⟨g2,0,none⟩) 1 1)∧Own w' 81 7 v2 1 (mxC (cpX x par v1))
 | [v3,_,v1,_],_,w'=>CpFin Q g cap X W x par R v3 v1 w'∧∀b,v1.ownBlock=some b→W.heap.size≤b
 | _,_,_=>False
def CpV (Q n:Nat)(x:MX)(par:Option Nat):List Value→Value→Prop
 | [],v=>∃g0,v=.slice (some ⟨g0,0,none⟩) 0 0
 | [_],v=>∃a c,v=.slice a x.m.attrs.length c
 | [_,_],v=>∃g2,v=.slice (some ⟨g2,0,none⟩) 1 1
 | _,v=>∃a c,v=.slice a (n+1) c
section
variable {Q g cap : Nat} {X : List MX} {W w' : World} {x : MX} {par : Option Nat} {R : Ob}
theorem CpC.facts {k:List Value}{Y:List Ob}(h:CpC Q g cap X W x par R k Y w'):w'.cell? ⟨Q,0,none⟩=some (.slice (some ⟨g,0,none⟩) X.length cap)∧R.P w':=by
 have key:∀l:List Ob,All 0 W (l ++ [mdO Q (.slice (some ⟨g,0,none⟩) X.length cap) X,R]) w'→w'.cell? ⟨Q,0,none⟩=some (.slice (some ⟨g,0,none⟩) X.length cap)∧R.P w':=fun l hl=>by
  have h1:MdAt Q (.slice (some ⟨g,0,none⟩) X.length cap) X w':=hl.P (mdO Q (.slice (some ⟨g,0,none⟩) X.length cap) X) (by simp)
  exact⟨h1.W.ptr,hl.P R (by simp)⟩
 match k,h with
 | [],h=>exact key Y h.1
 | [v0],h=>exact key (Y ++ [_]) (by rw [List.append_assoc];exact h.1.1)
 | [v1,_],h=>exact key (Y ++ [_]) (by rw [List.append_assoc];exact h.1.1)
 | [v2,v1,_],h=>exact key (Y ++ [_]) (by rw [List.append_assoc];exact h.1.1.1)
 | [v3,_,v1,_],h=>exact⟨h.1.blk.cell 0,h.1.r⟩
theorem CpC.alloc (k:List Value)(Y:List Ob)(w':World)(cs:List Value)(ty:TypeId)(h:CpC Q g cap X W x par R k Y w'):CpC Q g cap X W x par R k (bk w'.heap.size cs ty :: Y) (w'.alloc (.cells cs.toArray ty)):=by
 have hb:Below w'.heap.size w' (w'.alloc (.cells cs.toArray ty)):=(Below.refl _ _).alloc (Nat.le_refl _) _
 have hs:=hb.size
 match k,h with
 | [],h=>exact⟨h.1.newBk cs ty,bthen h.2 hb⟩
 | [v0],h=>exact⟨⟨h.1.1.newBk cs ty,bthen h.1.2 hb⟩,h.2⟩
 | [v1,_],h=>exact⟨⟨h.1.1.newBk cs ty,bthen h.1.2 hb⟩,h.2⟩
 | [v2,v1,_],h=>exact⟨⟨⟨h.1.1.1.newBk cs ty,bthen h.1.1.2 hb⟩,h.1.2⟩,h.2.1,own_belowM h.2.2 hb⟩
 | [v3,_,v1,_],h=>exact⟨⟨h.1.blk.below hb,own_belowM h.1.row hb,own_belowM h.1.att hb,R.loc w' _ h.1.r (fun b hb'=>hb.block b (R.here w' h.1.r b hb')),h.1.chg.trans (Chg.of_below hb) (fun _ _ e=>e),h.1.new⟩,h.2⟩
theorem CpC.perm (k:List Value)(Y Z:List Ob)(w':World)(hp:Y.Perm Z)(h:CpC Q g cap X W x par R k Y w'):CpC Q g cap X W x par R k Z w':=by
 match k,h with
 | [],h=>exact⟨h.1.perm (List.Perm.append_right _ hp),h.2⟩
 | [v0],h=>exact⟨⟨h.1.1.perm (List.Perm.append_right _ hp),h.1.2⟩,h.2⟩
 | [v1,_],h=>exact⟨⟨h.1.1.perm (List.Perm.append_right _ hp),h.1.2⟩,h.2⟩
 | [v2,v1,_],h=>exact⟨⟨⟨h.1.1.1.perm (List.Perm.append_right _ hp),h.1.1.2⟩,h.1.2⟩,h.2⟩
 | [v3,_,v1,_],h=>exact h
end
def KgS (Q g n cap p:Nat)(kv:Value)(w':World):Prop:=w'.cell? ⟨Q,0,none⟩=some (.slice (some ⟨g,0,none⟩) n cap)∧w'.cell? ⟨g,p*7+5,none⟩=some kv
def KgC (W:World)(kv:Value)(ks:List Nat)(k:Nat):List Value→List Ob→World→Prop
 | [],_,w'=>Below W.heap.size W w'
 | [v0],_,w'=>Below W.heap.size W w'∧(∃g0,v0=.slice (some ⟨g0,0,none⟩) 1 1)∧Own w' 3 1 v0 1 [.int .i64 (k:Int)]
 | [v1,_],_,w'=>Chg (fun b=>kv.ownBlock=some b) W w'∧Own w' 3 1 v1 (ks.length+1) (kC (ks ++ [k]))∧(v1.ownBlock=kv.ownBlock∨∀b,v1.ownBlock=some b→W.heap.size≤b)
 | _,_,_=>False
def KgV (n:Nat):List Value→Value→Prop
 | [],v=>∃g0,v=.slice (some ⟨g0,0,none⟩) 1 1
 | _,v=>∃a c,v=.slice a (n+1) c
theorem KgC.alloc {W:World}{kv:Value}{ks:List Nat}{k:Nat}(l:List Value)(Y:List Ob)(w':World)(cs:List Value)(ty:TypeId)(h:KgC W kv ks k l Y w'):KgC W kv ks k l (bk w'.heap.size cs ty :: Y) (w'.alloc (.cells cs.toArray ty)):=by
 have hb:Below w'.heap.size w' (w'.alloc (.cells cs.toArray ty)):=(Below.refl _ _).alloc (Nat.le_refl _) _
 match l,h with
 | [],h=>exact bthen h hb
 | [v0],h=>exact⟨bthen h.1 hb,h.2.1,own_belowM h.2.2 hb⟩
 | [v1,_],h=>exact⟨h.1.trans (Chg.of_below hb) (fun _ _ e=>e),own_belowM h.2.1 hb,h.2.2⟩
theorem KgC.perm {W:World}{kv:Value}{ks:List Nat}{k:Nat}(l:List Value)(Y Z:List Ob)(w':World)(hp:Y.Perm Z)(h:KgC W kv ks k l Y w'):KgC W kv ks k l Z w':=by
 match l,h with
 | [],h=>exact h
 | [v0],h=>exact h
 | [v1,_],h=>exact h
theorem KgC.chg {W:World}{kv:Value}{ks:List Nat}{k:Nat}{l:List Value}{Y:List Ob}{w':World}(h:KgC W kv ks k l Y w'):Chg (fun b=>kv.ownBlock=some b) W w':=by
 match l,h with
 | [],h=>exact Chg.of_below h
 | [v0],h=>exact Chg.of_below h.1
 | [v1,_],h=>exact h.1
theorem All.rebase {B:Nat}{w0 w:World}{l:List Ob}(h:All B w0 l w):All 0 w l w:=⟨h.P,h.apart,fun _ _ _ _=>Nat.zero_le _,Below.refl 0 w,Nat.zero_le _⟩
theorem run_append_all2 {P:Program}{t ty e:TypeId}{size bytes:Nat}(hT:ET P t e size bytes){B:Nat}{w0 w:World}(l1:List Ob){l2:List Ob}{dv:Value}{n:Nat}{xs:List Value}
  (h:All B w0 (l1 ++ sl e size dv n xs :: l2) w){sv:Value}{m:Nat}{ys:List Value}(hs:Own w e size sv m ys)(h1:∀u∈ys,u.oneCell'=true)(hlen:n+m≤1000000000)(hby:bytes≤1000) :
  ∃v' w',(Builtin.append_ #[t,t] ty #[dv,sv]).run P w=.ok v' w'∧All B w0 (l1 ++ sl e size v' (n+m) (xs ++ ys) :: l2) w'∧(v'.ownBlock=dv.ownBlock∨v'.ownBlock=some w.heap.size)∧Chg (fun k=>dv.ownBlock=some k) w w':=by
 obtain⟨i,z,hi,hz0,hz1,hz2,hz3⟩:=hT.info
 have hown:Own w e size dv n xs:=h.mid
 rcases hs.2 with ⟨rfl,rfl⟩ | ⟨g,cap,cur,rfl,_⟩
 ·have hy:ys=[]:=List.length_eq_zero_iff.1 (by rw [hs.1];omega)
  subst hy
  refine⟨dv,w,run_append_owned_none w 0 t ty e i size hT.under hi dv n xs hown,?_,.inl rfl,Chg.refl _ _⟩
  rw [List.append_nil]
  exact h
 ·have hmul:(n+m)*bytes≤1000000000*1000:=Nat.mul_le_mul hlen hby
  obtain⟨v',w',hr,h2,h3,_,h5⟩:=run_append_own_at (P:=P) w 0 t ty e i z size bytes hT.under hi hz0 hz1 hz2 hz3 hT.pos dv n xs hown ⟨g,0,none⟩ m cap ys hs.1 (own_news hs) h1 (by unfold maxLen;omega) (by omega) (Nat.zero_le _)
  refine⟨v',w',hr,h.step l1 (o':=sl e size v' (n+m) (xs ++ ys)) h2 ((Chg.refl _ _).grown h3 (fun k hk _=>hk)) ?_,h5,(Chg.refl _ _).grown h3 (fun k e _=>e)⟩
  intro k hk
  have hk':v'.ownBlock=some k:=hk
  rcases h5 with h5 | h5
  ·exact .inl (show dv.ownBlock=some k by rw [← h5];exact hk')
  ·right
   rw [h5] at hk'
   have:=Option.some.inj hk'
   omega
theorem run_append_B {P:Program}{t ty e:TypeId}{size bytes:Nat}(hT:ET P t e size bytes){B:Nat}{w:World}{dv:Value}{n:Nat}{xs:List Value}(hown:w.ownsRow B e size dv n xs)(hB:B≤w.heap.size)
  {g m cap:Nat}{ys:List Value}(hs:Own w e size (.slice (some ⟨g,0,none⟩) m cap) m ys)(h1:∀u∈ys,u.oneCell'=true)(hlen:n+m≤1000000000)(hby:bytes≤1000) :
  ∃v' w',(Builtin.append_ #[t,t] ty #[dv,.slice (some ⟨g,0,none⟩) m cap]).run P w=.ok v' w'∧w'.ownsRow B e size v' (n+m) (xs ++ ys)∧w.grownBy w' dv.ownBlock∧(v'.ownBlock=dv.ownBlock∨v'.ownBlock=some w.heap.size):=by
 obtain⟨i,z,hi,hz0,hz1,hz2,hz3⟩:=hT.info
 have hmul:(n+m)*bytes≤1000000000*1000:=Nat.mul_le_mul hlen hby
 obtain⟨v',w',hr,h2,h3,_,h5⟩:=run_append_own_at (P:=P) w B t ty e i z size bytes hT.under hi hz0 hz1 hz2 hz3 hT.pos dv n xs hown ⟨g,0,none⟩ m cap ys hs.1 (own_news hs) h1 (by unfold maxLen;omega) (by omega) hB
 exact⟨v',w',hr,h2,h3,h5⟩
theorem exec_append {P:Program}{o:Oper}{a:Act}{w w':World}{t:TypeId}{s x:Operand}{dv sv v':Value}(ho:o.op=.call { callee:=.builtin .append,args:=#[s,x],argTypes:=#[t,t] })(hd:a.eval s=dv)(hx:a.eval x=sv)
  (hr:(Builtin.append_ #[t,t] o.type #[dv,sv]).run P w=.ok v' w'):(execOp a.eval o).run P w=.ok (.value v') w':=by
 unfold execOp
 simp only [ho,resolve,invoke,builtin,Sem.run_bind,Sem.run_pure,Result.andThen_ok,List.map_toArray,List.map_cons,List.map_nil,hd,hx,hr]
theorem All.mdbk {Q:Nat}{nv:Value}{X:List MX}{w:World}(h:MdAt Q nv X w)(cs:List Value)(t:TypeId):All 0 w [mdO Q nv X,bk w.heap.size cs t] (w.alloc (.cells cs.toArray t)):=by
 refine⟨?_,?_,fun o ho k hk=>Nat.zero_le _,((Below.refl w.heap.size w).alloc (Nat.le_refl _) _).mono (Nat.zero_le _),Nat.zero_le _⟩
 ·intro o ho
  simp only [List.mem_cons,List.not_mem_nil,or_false] at ho
  rcases ho with rfl | rfl
  ·exact h.below ((Below.refl w.heap.size w).alloc (Nat.le_refl _) _)
  ·exact Blk.new w cs t
 ·rw [List.pairwise_cons]
  refine⟨fun y hy k h1 h2=>?_,by simp⟩
  simp only [List.mem_singleton] at hy
  subst hy
  have:=(mdO Q nv X).here w h k h1
  rw [show k=w.heap.size from h2] at this
  omega
def CpOut (M0:List MN)(deep:Bool)(f i:Nat)(m:MN)(Q g cap:Nat)(X:List MX)(w:World)(par:Option Nat)(e:Ending)(w':World):Prop :=
 ∃X' g' cap',ms X'=addK (ms X) par X.length ++ (if deep then(wlk (kM M0) f i).map (cpN M0 (psi (wlk (kM M0) f i) X.length) i par) else [⟨m.kind,m.name,m.attrs,m.data,par,[],false⟩])∧(∃v,e=.returned v)∧(∀y,y < M0.length→X'[y]? = X[y]?) ∧
  MdOut Q (.slice (some ⟨g,0,none⟩) X.length cap) X w (.slice (some ⟨g',0,none⟩) X'.length cap') X' w'
theorem mcopy_any {M0:List MN}{D:Nat→Nat}(hW:MW M0 D)(hN:∀f i m,lv M0 i=some m→(wlk (kM M0) f i).Nodup)(hN2:∀f i m,lv M0 i=some m→(wlk (kM M0) f i).length≤10000)(ha:∀i m,lv M0 i=some m→m.attrs.length≤10000)(deep:Bool):∀(f i:Nat) (m:MN),lv M0 i=some m→128 - D i=f →
  ∀(Q g cap:Nat) (X:List MX) (w:World) (par:Option Nat),MdAt Q (.slice (some ⟨g,0,none⟩) X.length cap) X w→(∀(x:Nat) (y:MN),lv M0 x=some y→(ms X)[x]? = some y)→M0.length≤X.length→X.length+(if deep then(wlk (kM M0) f i).length else 1)≤20000→(∀p,par=some p→M0.length≤p∧p < X.length∧∀y,X[p]? = some y→y.m.kids.length≤1000000) →
  Calls Tryz.prog 123 #[.pointer (some ⟨Q,0,none⟩),.int .i64 (i:Int),.int .i64 (pI par),.bool deep] w (CpOut M0 deep f i m Q g cap X w par):=by
 intro f
 induction f using Nat.strongRecOn with
 | ind f ih =>
  intro i m hi hf Q g cap X w par h hO hle hbd hpar
  have hiX:=hO i m hi
  rw [ms_at,Option.map_eq_some_iff] at hiX
  obtain⟨x,hx,hxm⟩:=hiX
  have hil:=(List.getElem?_eq_some_iff.1 hx).1
  have hal:=ha i m hi
  rw [← hxm] at hal
  have lq:=h.W.blk.lt
  have lg:=md_g_lt h
  have cN:∀j,j < 7→w.cell? ⟨g,i*7+j,none⟩=(mxC x)[j]?:=fun j hj=>h.W.cell hx j hj
  have n0:=cN 0 (by omega)
  have n1:=cN 1 (by omega)
  have n2:=cN 2 (by omega)
  have n3:=cN 3 (by omega)
  have n4:=cN 4 (by omega)
  have n5:=cN 5 (by omega)
  have n6:=cN 6 (by omega)
  rw [Nat.add_zero] at n0
  obtain⟨aa,ac,hav⟩:=h.W.ashape (List.mem_of_getElem? hx)
  obtain⟨ka,kc,hkv⟩:=h.W.kshape (List.mem_of_getElem? hx)
  simp only [mxC,zzD,zzE,hav,hkv,strV] at n0 n1 n2 n3 n4 n5 n6
  have q0:=h.W.ptr
  have hbd1:X.length≤20000:=by omega
  have hwp:=wlk_pos (kM M0) f i
  have HAV:=Lib.hid hav
  have HKV:=Lib.hid hkv
  have H0:=Lib.hid h
  have HX:=Lib.hid hx
  have HPar:=Lib.hid hpar
  have HO:=Lib.hid hO
  have HIh:=Lib.hid ih
  have HW:=Lib.hid hW
  have HXm:=Lib.hid hxm
  have Hi:=Lib.hid hi
  clear h hx hpar hO ih cN hav hkv hxm hi
  go_enter Tryz.func123,Tryz.ntmps123
  go_upto_region 2 with fail
  have hA1:=All.mdbk H0.out [.int .i64 x.m.kind,.string ⟨x.m.name.toArray⟩,.slice aa x.m.attrs.length ac,.string ⟨x.m.data.toArray⟩,.int .i64 (pI x.m.par),.slice ka x.m.kids.length kc,.bool x.m.gone] 81
  have hbW:Below w.heap.size w (w.alloc (.cells #[.int .i64 x.m.kind,.string ⟨x.m.name.toArray⟩,.slice aa x.m.attrs.length ac,.string ⟨x.m.data.toArray⟩,.int .i64 (pI x.m.par),.slice ka x.m.kids.length kc,.bool x.m.gone] 81)):=(Below.refl _ _).alloc (Nat.le_refl _) _
  change All 0 w _ (w.alloc (.cells #[.int .i64 x.m.kind,.string ⟨x.m.name.toArray⟩,.slice aa x.m.attrs.length ac,.string ⟨x.m.data.toArray⟩,.int .i64 (pI x.m.par),.slice ka x.m.kids.length kc,.bool x.m.gone] 81)) at hA1
  have hsW:(w.alloc (.cells #[.int .i64 x.m.kind,.string ⟨x.m.name.toArray⟩,.slice aa x.m.attrs.length ac,.string ⟨x.m.data.toArray⟩,.int .i64 (pI x.m.par),.slice ka x.m.kids.length kc,.bool x.m.gone] 81)).heap.size=w.heap.size+1:=by simp
  generalize w.alloc (.cells #[.int .i64 x.m.kind,.string ⟨x.m.name.toArray⟩,.slice aa x.m.attrs.length ac,.string ⟨x.m.data.toArray⟩,.int .i64 (pI x.m.par),.slice ka x.m.kids.length kc,.bool x.m.gone] 81)=W at *
  have HA1:=Lib.hid hA1
  have HBW:=Lib.hid hbW
  have hMW:MdAt Q (.slice (some ⟨g,0,none⟩) X.length cap) X W:=hA1.head
  have HMW:=Lib.hid hMW
  have e0:=hMW.W.ptr
  obtain⟨⟨b0,b1,b2,b3,b4,b5,b6⟩,zf⟩:=nd_cells7 (show Blk W w.heap.size [_,_,_,_,_,_,_] _ from hA1.tail.head)
  have lqW:=hMW.W.blk.lt
  have lrW:w.heap.size < W.heap.size:=by omega
  clear hsW
  have hQr:Q≠w.heap.size:=by omega
  have hQg:Q≠g:=fun e=>by
   have h1:=H0.out.W.blk
   obtain⟨cg,hg⟩:=own_blk H0.out.W.row (b:=g) rfl
   rw [e] at h1
   exact blk_ne h1 hg (by decide) rfl
  have HAw:=Lib.hid (show ∀wx,MdAt Q (.slice (some ⟨g,0,none⟩) X.length cap) X wx→Own wx 92 2 (.slice aa x.m.attrs.length ac) x.m.attrs.length (attrC x.m.attrs) from fun wx h2=>by
   have h3:=h2.W.att x (List.mem_of_getElem? HX.out)
   rw [HAV.out] at h3
   exact h3)
  have hcx:mxC x=[.int .i64 x.m.kind,.string ⟨x.m.name.toArray⟩,.slice aa x.m.attrs.length ac,.string ⟨x.m.data.toArray⟩,.int .i64 (pI x.m.par),.slice ka x.m.kids.length kc,.bool x.m.gone]:=by simp only [mxC,HAV.out,HKV.out,strV]
  have HCx:=Lib.hid hcx
  generalize hR:bk w.heap.size [.int .i64 x.m.kind,.string ⟨x.m.name.toArray⟩,.slice aa x.m.attrs.length ac,.string ⟨x.m.data.toArray⟩,.int .i64 (pI x.m.par),.slice ka x.m.kids.length kc,.bool x.m.gone] 81=R at *
  have hS1:∀k Y wx,CpC Q g cap X W x par R k Y wx→CpS Q g cap X.length w.heap.size x aa ac wx:=by
   intro k Y wx hC
   obtain⟨h1,h2⟩:=CpC.facts hC
   subst hR
   obtain⟨⟨b0,b1,b2,b3,b4,b5,b6⟩,_⟩:=nd_cells7 (show Blk wx w.heap.size [_,_,_,_,_,_,_] _ from h2)
   exact⟨h1,b0,b1,b2,b3⟩
  have y0:∀x1:InS (CpS Q g cap X.length w.heap.size x aa ac),x1.w.cell? ⟨Q,0,none⟩=some (.slice (some ⟨g,0,none⟩) X.length cap):=fun x1=>x1.h.1
  have y1:∀x1:InS (CpS Q g cap X.length w.heap.size x aa ac),x1.w.cell? ⟨w.heap.size,0,none⟩=some (.int .i64 x.m.kind):=fun x1=>x1.h.2.1
  have y2:∀x1:InS (CpS Q g cap X.length w.heap.size x aa ac),x1.w.cell? ⟨w.heap.size,1,none⟩=some (.string ⟨x.m.name.toArray⟩):=fun x1=>x1.h.2.2.1
  have y3:∀x1:InS (CpS Q g cap X.length w.heap.size x aa ac),x1.w.cell? ⟨w.heap.size,2,none⟩=some (.slice aa x.m.attrs.length ac):=fun x1=>x1.h.2.2.2.1
  have y4:∀x1:InS (CpS Q g cap X.length w.heap.size x aa ac),x1.w.cell? ⟨w.heap.size,3,none⟩=some (.string ⟨x.m.data.toArray⟩):=fun x1=>x1.h.2.2.2.2
  have hne:Nonempty (InS (CpS Q g cap X.length w.heap.size x aa ac)):=⟨⟨W,e0,b0,b1,b2,b3⟩⟩
  have hC0:CpC Q g cap X W x par R [] [] W.drew:=by
   subst hR
   exact⟨(All.rebase HA1.out).drew,(Below.refl _ _).drew⟩
  clear b0 b1 b2 b3 b4 b5 b6 zf e0 hA1 hbW hMW q0 n0 n1 n2 n3 n4 n5 n6
  refine RZ.reg_m ⟨CpS Q g cap X.length w.heap.size x aa ac,CpC Q g cap X W x par R,CpV Q X.length x par,fun _ _=>undef,fun _=>[],fun _=>0⟩ 21 (by kernel_rfl) (by kernel_rfl) hS1 CpC.alloc CpC.perm hC0 ?_
  simp only [zzF,zzG,zzH,zzI]
  repeat (first
   | (refine RZ.m_held (by rfl) (by rfl) (fun K hK=>?_);go_big_quiet_step (fail);refine wpQuiet_nil ?_;refine hK.out _ ?_;clear hK K)
   | (refine RZ.m_skip (by rfl) ?_;simp only [Act.put,zzA,zzB,zzC]))
  refine RZ.m_app (by rfl) (by rfl) ⟨_,0,rfl⟩ ?_ ?_
  ·intro Y wx hx
   refine⟨.slice (some ⟨wx.heap.size,0,none⟩) 0 0,wx.alloc (.cells #[] 92),by go_simp,⟨_,rfl⟩,⟨?_,bthen hx.2 ((Below.refl _ _).alloc (Nat.le_refl _) _)⟩,fun b hb=>by cases hb;exact hx.2.size⟩
   exact(hx.1.newSl 92 2 0 [] rfl (by omega)).perm List.perm_middle.symm
  rintro v ⟨g0,rfl⟩
  simp only [Act.put,zzA,zzB,zzC]
  repeat (first
   | (refine RZ.m_held (by rfl) (by rfl) (fun K hK=>?_);go_big_quiet_step (fail);refine wpQuiet_nil ?_;refine hK.out _ ?_;clear hK K)
   | (refine RZ.m_skip (by rfl) ?_;simp only [Act.put,zzA,zzB,zzC]))
  refine RZ.m_app (by rfl) (by rfl) ⟨_,none,0,rfl⟩ ?_ ?_
  ·intro Y wx hx
   have hM:MdAt Q (.slice (some ⟨g,0,none⟩) X.length cap) X wx:=hx.1.1.P (mdO Q (.slice (some ⟨g,0,none⟩) X.length cap) X) (by simp)
   obtain⟨v',w',hr,hA,hb,hs⟩:=run_append_all2 (ty:=79) etA Y hx.1.1 (HAw.out wx hM) (attrC_one _) (by omega) (by omega)
   simp only [List.nil_append,Nat.zero_add] at hA
   obtain⟨va,vc,rfl⟩:=own_shape (show Own _ _ _ _ _ _ from hA.mid)
   refine⟨_,w',exec_append rfl rfl rfl hr,⟨va,vc,rfl⟩,⟨hA,hx.1.2.trans (hs.below hx.1.2.size (fun k e=>hx.2 k e))⟩,fun b hb'=>?_⟩
   rcases hb with e | e
   ·exact hx.2 b (e ▸ hb')
   ·rw [e] at hb';cases hb';exact hx.1.2.size
  rintro v ⟨va,vc,rfl⟩
  simp only [Act.put,zzA,zzB,zzC]
  repeat (first
   | (refine RZ.m_held (by rfl) (by rfl) (fun K hK=>?_);go_big_quiet_step (fail);refine wpQuiet_nil ?_;refine hK.out _ ?_;clear hK K)
   | (refine RZ.m_skip (by rfl) ?_;simp only [Act.put,zzA,zzB,zzC]))
  refine RZ.m_app (by rfl) (by rfl) ⟨_,0,rfl⟩ ?_ ?_
  ·intro Y wx hx
   refine⟨.slice (some ⟨wx.heap.size,0,none⟩) 1 1,wx.alloc (.cells #[.int .i64 x.m.kind,.string ⟨x.m.name.toArray⟩,.slice va x.m.attrs.length vc,.string ⟨x.m.data.toArray⟩,.int .i64 (pI par),.slice none 0 0,.bool false] 81),by go_simp,⟨_,rfl⟩,⟨⟨hx.1.1.still ((Below.refl _ _).alloc (Nat.le_refl _) _),bthen hx.1.2 ((Below.refl _ _).alloc (Nat.le_refl _) _)⟩,hx.2⟩,⟨_,rfl⟩,?_⟩
   exact own_at (n:=1) (size:=7) (Blk.new wx [.int .i64 x.m.kind,.string ⟨x.m.name.toArray⟩,.slice va x.m.attrs.length vc,.string ⟨x.m.data.toArray⟩,.int .i64 (pI par),.slice none 0 0,.bool false] 81) rfl (by omega)
  rintro v ⟨g2,rfl⟩
  simp only [Act.put,zzA,zzB,zzC]
  repeat (first
   | (refine RZ.m_held (by rfl) (by rfl) (fun K hK=>?_);go_big_quiet_step (fail);refine wpQuiet_nil ?_;refine hK.out _ ?_;clear hK K)
   | (refine RZ.m_skip (by rfl) ?_;simp only [Act.put,zzA,zzB,zzC]))
  refine RZ.m_app (by rfl) (by rfl) ⟨_,none,0,rfl⟩ ?_ ?_
  ·intro Y wx hx
   obtain⟨⟨⟨hA,hsx⟩,hfr⟩,_,hown⟩:=hx
   have hM:MdAt Q (.slice (some ⟨g,0,none⟩) X.length cap) X wx:=hA.P (mdO Q (.slice (some ⟨g,0,none⟩) X.length cap) X) (by simp)
   obtain⟨v',w',hr,ho,hg,hb⟩:=run_append_B (ty:=82) etN (B:=0) hM.W.row (Nat.zero_le _) hown (mx_one ⟨_,_,_,rfl⟩ ⟨_,_,_,rfl⟩) (by omega) (by omega)
   obtain⟨na,nc,rfl⟩:=own_shapeB ho
   have hch:Chg (fun k=>k=g) wx w':=(Chg.refl (fun k=>k=g) wx).grown hg (fun k e _=>by cases e;rfl)
   refine⟨_,w',exec_append rfl rfl rfl hr,⟨na,nc,rfl⟩,⟨?_,ho,?_,?_,?_,?_⟩,hfr⟩
   ·exact hM.W.blk.chg hch (fun e=>hQg e)
   ·exact own_chg hA.mid hch (fun b hb' e=>by
     obtain⟨cur,hcur⟩:=own_blk (show Own wx _ _ _ _ _ from hA.mid) hb'
     obtain⟨cg,hcg⟩:=own_blk hM.W.row (b:=g) rfl
     rw [show b=g from e,hcg] at hcur;cases hcur)
   ·subst hR
    have hr':Blk wx w.heap.size _ _:=hA.P (bk w.heap.size [.int .i64 x.m.kind,.string ⟨x.m.name.toArray⟩,.slice aa x.m.attrs.length ac,.string ⟨x.m.data.toArray⟩,.int .i64 (pI x.m.par),.slice ka x.m.kids.length kc,.bool x.m.gone] 81) (by simp)
    exact hr'.chg hch (fun e=>by have:w.heap.size=g:=e;omega)
   ·exact(Chg.of_below hsx).trans hch (fun _ _ e=>e)
   ·rcases hb with e | e
    ·exact .inl e
    ·exact .inr (fun b hb'=>by rw [e] at hb';cases hb';exact hsx.size)
  rintro v ⟨na,nc,rfl⟩
  simp only [Act.put,zzA,zzB,zzC]
  repeat (first
   | (refine RZ.m_held (by rfl) (by rfl) (fun K hK=>?_);go_big_quiet_step (fail);refine wpQuiet_nil ?_;refine hK.out _ ?_;clear hK K)
   | (refine RZ.m_skip (by rfl) ?_;simp only [Act.put,zzA,zzB,zzC]))
  refine RZ.m_nil ?_
  intro w5 hC5
  obtain⟨hF,hfr⟩:=hC5
  have q5:w5.cell? ⟨Q,0,none⟩=some (.slice (some ⟨g,0,none⟩) X.length cap):=hF.blk.cell 0
  have qf5:w5.frozen? ⟨Q,0,none⟩=false:=hF.blk.free 0
  obtain⟨g',hg'⟩:∃g',na=some ⟨g',0,none⟩:=by
   rcases hF.row.2 with ⟨e,_⟩ | ⟨g',cap',cur,e,_⟩
   ·simp only [Value.slice.injEq] at e;omega
   ·simp only [Value.slice.injEq] at e;exact⟨g',e.1⟩
  subst hg'
  have hgQ':g'≠Q:=fun e=>by
   obtain⟨cur,hcur⟩:=own_blk hF.row (b:=g') rfl
   exact blk_ne hcur hF.blk (by decide) e
  have hch6:Chg (fun k=>k=Q∨(Value.slice (some ⟨g,0,none⟩) X.length cap).ownBlock=some k) W (w5.setCell ⟨Q,0,none⟩ (.slice (some ⟨g',0,none⟩) (X.length+1) nc)):=(hF.chg.mono (fun k _ e=>.inr (by rw [show k=g from e];rfl))).setCell ⟨Q,0,none⟩ (fun _=>.inl rfl) _
  have hM6:=md_push HMW.out (cpX x par (.slice va x.m.attrs.length vc)) hch6 (hF.blk.set 0 (.slice (some ⟨g',0,none⟩) (X.length+1) nc)) (own_kept hF.row (fun b hb=>Below.heap_setCell _ _ _ _ (by cases hb;exact hgQ')))
   (hF.new.imp id id) (own_kept hF.att (fun b hb=>Below.heap_setCell _ _ _ _ (fun e=>by
    obtain⟨cur,hcur⟩:=own_blk hF.att hb
    rw [show b=Q from e] at hcur
    exact blk_ne hcur hF.blk (by decide) rfl))) (World.ownsRow_nil _ _ _ _) hfr (fun b hb=>by cases hb)
  obtain⟨X1,hX1⟩:∃X1,X1=X ++ [cpX x par (.slice va x.m.attrs.length vc)]:=⟨_,rfl⟩
  have hlen6:X1.length=X.length+1:=by rw [hX1];simp
  rw [← hX1,← hlen6] at hM6
  have hms1:ms X1=ms X ++ [⟨x.m.kind,x.m.name,x.m.attrs,x.m.data,par,[],false⟩]:=by rw [hX1];unfold ms;rw [List.map_append];rfl
  have hA6:=hM6.all HA1.out
  have HM6:=Lib.hid ((MdOut.refl H0.out HBW.out).trans hM6)
  have HA6:=Lib.hid hA6
  have HMs1:=Lib.hid hms1
  have HX1:=Lib.hid hX1
  clear hF hfr hgQ' hch6 hM6 hA6 hms1 hX1 y0 y1 y2 y3 y4 hne hC0 hS1
  go_upto_if 45 with fail
  rw [← hlen6]
  clear q5 qf5
  generalize w5.setCell ⟨Q,0,none⟩ (.slice (some ⟨g',0,none⟩) X1.length nc)=w6 at *
  go_cut [] (fun wx=>∃X2 g2 cap2,ms X2=addK (ms X) par X.length ++ [⟨x.m.kind,x.m.name,x.m.attrs,x.m.data,par,[],false⟩]∧MdOut Q (.slice (some ⟨g,0,none⟩) X.length cap) X w (.slice (some ⟨g2,0,none⟩) X2.length cap2) X2 wx∧All 0 w [mdO Q (.slice (some ⟨g2,0,none⟩) X2.length cap2) X2,R] wx∧∀y,y < M0.length→X2[y]? = X[y]?)
  case first =>
   cases par with
   | none =>
    rw [show pI none=-1 from rfl]
    go_wp2_with fail
    go_meet
    exact⟨X1,g',nc,HMs1.out,HM6.out,HA6.out,fun y hy=>by rw [HX1.out,List.getElem?_append_left (by omega)]⟩
   | some p =>
    rw [show pI (some p)=(p:Int) from rfl]
    obtain⟨hp1,hp2,hp3⟩:=HPar.out p rfl
    obtain⟨xp,hxp⟩:∃xp,X[p]? = some xp:=⟨_,List.getElem?_eq_getElem hp2⟩
    have hxp1:X1[p]? = some xp:=by rw [HX1.out,List.getElem?_append_left hp2];exact hxp
    have hM6:=HM6.out.at_
    obtain⟨kpa,kpc,hkp⟩:=hM6.W.kshape (List.mem_of_getElem? hxp1)
    have hkl:xp.m.kids.length≤1000000:=hp3 xp hxp
    clear hp3
    have q0:=hM6.W.ptr
    have q5:=hM6.W.cell hxp1 5 (by omega)
    simp only [mxC,zzD,zzE,hkp] at q5
    have hok:Own w6 3 1 (.slice kpa xp.m.kids.length kpc) xp.m.kids.length (kC xp.m.kids):=by
     have:=hM6.W.kid xp (List.mem_of_getElem? hxp1)
     rw [hkp] at this
     exact this
    have hkb:∀b,(Value.slice kpa xp.m.kids.length kpc).ownBlock=some b→b < w6.heap.size∧b≠Q∧b≠g':=fun b hb=>by
     obtain⟨cur,hcur⟩:=own_blk hok hb
     refine⟨lt_of_block hcur,fun e=>?_,fun e=>?_⟩
     ·subst e;exact blk_ne hcur hM6.W.blk (by decide) rfl
     ·subst e;obtain⟨cg,hcg⟩:=own_blk hM6.W.row (b:=b) rfl;rw [hcg] at hcur;cases hcur
    have lQ6:=hM6.W.blk.lt
    have lg6:=own_lt hM6.W.row (k:=g') rfl
    have hlp1:p < X1.length:=by omega
    have HLen6:=Lib.hid hlen6
    have hx1l:X1.length≤20001:=by omega
    clear hlen6
    have HMz:=Lib.hid hM6
    have HXp:=Lib.hid hxp1
    have HKp:=Lib.hid hkp
    have HOk:=Lib.hid hok
    have HXp0:=Lib.hid hxp
    clear hM6 hxp1 hkp hxp
    have hS4:∀k Y wx,KgC w6 (.slice kpa xp.m.kids.length kpc) xp.m.kids X.length k Y wx→KgS Q g' X1.length nc p (.slice kpa xp.m.kids.length kpc) wx:=by
     intro k Y wx hC
     have hc:=hC.chg
     have eQ:=hc.block Q lQ6 (fun e=>(hkb Q e).2.1 rfl)
     have eg:=hc.block g' lg6 (fun e=>(hkb g' e).2.2 rfl)
     exact⟨by rw [← q0];simp [World.cell?,eQ],by rw [← q5];simp [World.cell?,eg]⟩
    have y0:∀x1:InS (KgS Q g' X1.length nc p (.slice kpa xp.m.kids.length kpc)),x1.w.cell? ⟨Q,0,none⟩=some (.slice (some ⟨g',0,none⟩) X1.length nc):=fun x1=>x1.h.1
    have y1:∀x1:InS (KgS Q g' X1.length nc p (.slice kpa xp.m.kids.length kpc)),x1.w.cell? ⟨g',p*7+5,none⟩=some (.slice kpa xp.m.kids.length kpc):=fun x1=>x1.h.2
    have hne:Nonempty (InS (KgS Q g' X1.length nc p (.slice kpa xp.m.kids.length kpc))):=⟨⟨w6,q0,q5⟩⟩
    clear q0 q5
    have hge:decide ((0:Int)≤(p:Int))=true:=by simp
    try rw [hge]
    go_wp2_with fail
    try simp only [hge]
    refine RZ.reg_m ⟨KgS Q g' X1.length nc p (.slice kpa xp.m.kids.length kpc),KgC w6 (.slice kpa xp.m.kids.length kpc) xp.m.kids X.length,KgV xp.m.kids.length,fun _ _=>undef,fun _=>[],fun _=>0⟩ 18 (by kernel_rfl) (by kernel_rfl) hS4 KgC.alloc KgC.perm ((Below.refl _ _).drew) ?_
    have HKb:=Lib.hid hkb
    clear hS4 hkb hok
    simp only [zzF,zzG,zzH,zzI]
    repeat (first
     | (refine RZ.m_held (by rfl) (by rfl) (fun K hK=>?_);go_big_quiet_step (fail);refine wpQuiet_nil ?_;refine hK.out _ ?_;clear hK K)
     | (refine RZ.m_skip (by rfl) ?_;simp only [Act.put,zzA,zzB,zzC]))
    refine RZ.m_app (by rfl) (by rfl) ⟨_,0,rfl⟩ ?_ ?_
    ·intro Y wx hx
     refine⟨.slice (some ⟨wx.heap.size,0,none⟩) 1 1,wx.alloc (.cells #[.int .i64 (X.length:Int)] 3),by go_simp,⟨_,rfl⟩,bthen hx ((Below.refl _ _).alloc (Nat.le_refl _) _),⟨_,rfl⟩,?_⟩
     exact own_at (n:=1) (size:=1) (Blk.new wx [.int .i64 (X.length:Int)] 3) rfl (by omega)
    rintro v ⟨gk,rfl⟩
    simp only [Act.put,zzA,zzB,zzC]
    repeat (first
     | (refine RZ.m_held (by rfl) (by rfl) (fun K hK=>?_);go_big_quiet_step (fail);refine wpQuiet_nil ?_;refine hK.out _ ?_;clear hK K)
     | (refine RZ.m_skip (by rfl) ?_;simp only [Act.put,zzA,zzB,zzC]))
    refine RZ.m_app (by rfl) (by rfl) ⟨_,none,0,rfl⟩ ?_ ?_
    ·intro Y wx hx
     obtain⟨hbx,_,hown⟩:=hx
     obtain⟨v',w',hr,ho,hg,hb⟩:=run_append_B (ty:=31) etI (B:=0) (own_belowM HOk.out hbx) (Nat.zero_le _) hown (kC_one [X.length]) (by omega) (by omega)
     obtain⟨na,nc2,rfl⟩:=own_shapeB ho
     refine⟨_,w',exec_append rfl rfl rfl hr,⟨na,nc2,rfl⟩,?_,?_,?_⟩
     ·exact(Chg.of_below hbx).trans ((Chg.refl (fun b=>(Value.slice kpa xp.m.kids.length kpc).ownBlock=some b) wx).grown hg (fun k e _=>e)) (fun _ _ e=>e)
     ·have h9:Own w' _ _ _ _ _:=ho
      rw [show([.int .i64 (X.length:Int)]:List Value)=kC [X.length] from rfl,kC_app] at h9
      exact h9
     ·rcases hb with e | e
      ·exact .inl e
      ·exact .inr (fun b hb'=>by rw [e] at hb';cases hb';exact hbx.size)
    rintro v ⟨na,nc2,rfl⟩
    simp only [Act.put,zzA,zzB,zzC]
    repeat (first
     | (refine RZ.m_held (by rfl) (by rfl) (fun K hK=>?_);go_big_quiet_step (fail);refine wpQuiet_nil ?_;refine hK.out _ ?_;clear hK K)
     | (refine RZ.m_skip (by rfl) ?_;simp only [Act.put,zzA,zzB,zzC]))
    refine RZ.m_nil ?_
    intro w7 hC7
    obtain⟨hch,hown,hvb⟩:=hC7
    have hM7z:=HMz.out
    have eQ:=hch.block Q lQ6 (fun e=>(HKb.out Q e).2.1 rfl)
    have eg:=hch.block g' lg6 (fun e=>(HKb.out g' e).2.2 rfl)
    have r0:w7.cell? ⟨Q,0,none⟩=some (.slice (some ⟨g',0,none⟩) X1.length nc):=by rw [← hM7z.W.ptr];simp [World.cell?,eQ]
    have r5:w7.cell? ⟨g',p*7+5,none⟩=some (.slice kpa xp.m.kids.length kpc):=by
     have:=hM7z.W.cell HXp.out 5 (by omega)
     simp only [mxC,zzD,zzE,HKp.out] at this
     rw [← this];simp [World.cell?,eg]
    have rf:w7.frozen? ⟨g',p*7+5,none⟩=false:=by
     have:=hM7z.W.frz (p*7+5)
     rw [← this];simp [World.frozen?,eg]
    have hpk:=hM7z.putK HXp.out (HKp.out ▸ hch) (.slice na (xp.m.kids.length+1) nc2) (xp.m.kids ++ [X.length]) (by rw [List.length_append,List.length_singleton];exact hown) (by rw [HKp.out];exact hvb)
    have HPk:=Lib.hid hpk
    clear hch hown hvb hM7z eQ eg hpk y0 y1 hne
    go_wp2_with fail
    go_meet
    refine⟨X1.set p { xp with kv:=.slice na (xp.m.kids.length+1) nc2,m:={ xp.m with kids:=xp.m.kids ++ [X.length] } },g',nc,?_,HM6.out.trans HPk.out,HPk.out.all HA6.out,fun y hy=>?_⟩
    ·rw [ms_set,HMs1.out]
     have h1:(ms X)[p]? = some xp.m:=by rw [ms_at,HXp0.out];rfl
     rw [addK_set h1,List.set_append_left _ _ (by rw [ms_len];exact hp2)]
    ·rw [List.getElem?_set_ne (by omega),HX1.out,List.getElem?_append_left (by omega)]
  case rest =>
   obtain⟨X2,g2,cap2,hms,hM,hA,hold⟩:=hcut
   obtain⟨ψ,hψ⟩:∃ψ,ψ = psi (wlk (kM M0) f i) X.length:=⟨_,rfl⟩
   have hlenX2:X2.length=X.length+1:=by
    have:=congrArg List.length hms
    rw [ms_len,List.length_append,addK_len,ms_len] at this
    simpa using this
   have HMs2:=Lib.hid hms
   have HM2:=Lib.hid hM
   have HA2:=Lib.hid hA
   have HOld2:=Lib.hid hold
   have HΨ:=Lib.hid hψ
   have HLen2:=Lib.hid hlenX2
   clear hms hM hA hold hψ hlenX2 hlen6
   have hwe:=hW.wlk_eq Hi.out hf
   have HWe:=Lib.hid hwe
   have hxk:x.m.kids=m.kids:=by rw [HXm.out]
   have HXk:=Lib.hid hxk
   clear hwe hxk
   generalize w5.setCell ⟨Q,0,none⟩ _=w6 at *
   go_wp2_with fail
   go_loopw [10] (fun iv wr=>∃(j:Nat) (X3:List MX) (g3 cap3:Nat),j≤x.m.kids.length∧(deep=false→j=0)∧iv=.int .i64 (j:Int)∧ms X3=addK (ms X) par X.length ++ (⟨x.m.kind,x.m.name,x.m.attrs,x.m.data,par,(x.m.kids.take j).map ψ,false⟩ :: ((x.m.kids.take j).flatMap (wlk (kM M0) (f - 1))).map (cpN M0 ψ i par)) ∧
    MdOut Q (.slice (some ⟨g,0,none⟩) X.length cap) X w (.slice (some ⟨g3,0,none⟩) X3.length cap3) X3 wr∧All 0 w [mdO Q (.slice (some ⟨g3,0,none⟩) X3.length cap3) X3,R] wr∧∀y,y < M0.length→X3[y]? = X[y]?) (fun iv _=>x.m.kids.length - intN iv)
   case atStart=>exact⟨0,X2,g2,cap2,by omega,fun _=>rfl,rfl,HMs2.out,HM2.out,HA2.out,HOld2.out⟩
   case round =>
    obtain⟨j,X3,g3,cap3,hj,hdj,rfl,hms,hM,hA,hold⟩:=hrel
    have hR3:=hA.tail.head
    subst hR
    obtain⟨⟨b0,b1,b2,b3,b4,b5,b6⟩,zf⟩:=nd_cells7 (show Blk wr w.heap.size [_,_,_,_,_,_,_] _ from hR3)
    have hiM:i < M0.length:=lv_live ⟨m,Hi.out⟩
    have hx3:X3[i]? = some x:=(hold i hiM).trans HX.out
    have hMd3:MdAt Q (.slice (some ⟨g3,0,none⟩) X3.length cap3) X3 wr:=hA.head
    have hlen3:X3.length=X.length+(1+((x.m.kids.take j).flatMap (wlk (kM M0) (f - 1))).length):=by
     have:=congrArg List.length hms
     rw [ms_len,List.length_append,addK_len,ms_len,List.length_cons,List.length_map] at this
     omega
    have HMs3:=Lib.hid hms
    have HM3:=Lib.hid hM
    have HA3:=Lib.hid hA
    have HOld3:=Lib.hid hold
    have HMd3:=Lib.hid hMd3
    have HLen3:=Lib.hid hlen3
    have HDj:=Lib.hid hdj
    have HX3:=Lib.hid hx3
    clear hms hM hA hold hR3 hMd3 hlen3 hdj hx3
    cases hdp:deep with
    | false =>
     have hj0:=HDj.out hdp
     subst hj0
     go_wp2_with fail
     (try simp only [Exit.inBlock,Exit.then])
     refine bodyPost_end (results_none rfl _ _ _) rfl ?_
     refine⟨X3,g3,cap3,?_,⟨_,rfl⟩,HOld3.out,HM3.out⟩
     rw [HMs3.out]
     simp only [List.take_zero,List.map_nil,List.flatMap_nil,Bool.false_eq_true,if_false]
     rw [HXm.out]
    | true =>
     by_cases hjl:j < x.m.kids.length
     ·obtain⟨k,hk⟩:∃k,x.m.kids[j]? = some k:=⟨_,List.getElem?_eq_getElem hjl⟩
      have hok:=HMd3.out.W.kid x (List.mem_of_getElem? HX3.out)
      rw [HKV.out] at hok
      obtain⟨gk,rfl,ck⟩:=kid_get hok hk
      have hkm:m.kids[j]? = some k:=by rw [← HXk.out];exact hk
      obtain⟨mk,hmk,hpk⟩:=HW.out.kid i m k Hi.out (List.mem_of_getElem? hkm)
      obtain⟨mi,hmi,_,hdd⟩:=HW.out.par k mk i hmk hpk
      have hlowk:=HW.out.low k mk hmk
      have hwl:((x.m.kids.take j).flatMap (wlk (kM M0) (f - 1))).length+(wlk (kM M0) (f - 1) k).length+1≤(wlk (kM M0) f i).length:=by
       rw [HWe.out,List.length_cons,HXk.out]
       have h1:=flatMap_take_succ hkm (wlk (kM M0) (f - 1))
       have h2:((m.kids.take (j+1)).flatMap (wlk (kM M0) (f - 1))).length≤(m.kids.flatMap (wlk (kM M0) (f - 1))).length:=by
        conv=>rhs;rw [← List.take_append_drop (j+1) m.kids]
        rw [List.flatMap_append,List.length_append]
        omega
       rw [h1,List.length_append] at h2
       omega
      rw [hdp] at hbd
      simp only [if_true] at hbd
      have hroot:(ms X3)[X.length]? = some ⟨x.m.kind,x.m.name,x.m.attrs,x.m.data,par,(x.m.kids.take j).map ψ,false⟩:=by
       rw [HMs3.out,List.getElem?_append_right (by rw [addK_len,ms_len];exact Nat.le_refl _),addK_len,ms_len,Nat.sub_self]
       rfl
      have HC:=Lib.hid (HIh.out (f - 1) (by omega) k mk hmk (by omega) Q g3 cap3 X3 wr (some X.length) HMd3.out (fun y z hyz=>by
        have h1:=HOld3.out y (lv_live ⟨z,hyz⟩)
        have h2:=HO.out y z hyz
        rw [ms_at] at h2 ⊢
        rw [h1];exact h2) (by have:=HLen3.out;omega) (by rw [hdp];simp only [if_true];have:=HLen3.out;omega) (fun p hp=>by
        cases hp
        refine⟨hle,by have:=HLen3.out;omega,fun y hy=>?_⟩
        rw [ms_at,hy] at hroot
        have:=Option.some.inj hroot
        have e9:y.m.kids=(x.m.kids.take j).map ψ:=by
         have h9:y.m=_:=this
         rw [h9]
        rw [e9,List.length_map,List.length_take]
        have:=HW.out.klen Hi.out
        rw [← HXk.out] at this
        omega))
      rw [hdp] at HC
      simp only [pI] at HC
      have HK:=Lib.hid hk
      have HKm:=Lib.hid hkm
      have hjl2:(j:Int) < (x.m.kids.length:Int):=by omega
      have hklen:x.m.kids.length≤100000:=by have:=HW.out.klen Hi.out;rw [← HXk.out] at this;exact this
      clear hk hkm hok hmk hpk hmi hdd hroot
      go_wp2_with fail
      refine HC.out.mono ?_
      rintro e w8 ⟨X4,g4,cap4,hms4,⟨v4,rfl⟩,hold4,hM4⟩
      simp only [if_true] at hms4
      have HMs4:=Lib.hid hms4
      have HM4:=Lib.hid hM4
      have HOld4:=Lib.hid hold4
      clear hms4 hM4 hold4 ck b0 b1 b2 b3 b4 b5 b6 zf
      go_wp2_with fail
      refine⟨⟨j+1,X4,g4,cap4,by omega,(fun e=>by cases e),by first | rfl | simp,?_,HM3.out.trans HM4.out,HM4.out.all HA3.out,fun y hy=>(HOld4.out y hy).trans (HOld3.out y hy)⟩,by simp only [intN];omega⟩
      have hlk:X3.length=X.length+1+((m.kids.take j).flatMap (wlk (kM M0) (f - 1))).length:=by rw [HLen3.out,HXk.out];omega
      have hpsi:ψ k=X3.length:=by
       obtain⟨r,hr⟩:=wlk_head (kM M0) (f - 1) k
       rw [HΨ.out,psi_kid HW.out hN Hi.out hf HKm.out (by rw [hr];simp),hlk,hr,psi_top]
      rw [HMs4.out,HMs3.out,addK_app _ _ X.length X3.length (by rw [addK_len,ms_len]),List.append_assoc,List.cons_append]
      congr 1
      have e1:=flatMap_take_succ HK.out (wlk (kM M0) (f - 1))
      rw [e1,List.map_append,List.take_add_one,HK.out]
      congr 1
      ·congr 1
       rw [List.map_append,hpsi.symm];rfl
      ·congr 1
       rw [hlk,HΨ.out]
       exact cp_kid HW.out hN Hi.out hf HKm.out
     ·obtain rfl:j=x.m.kids.length:=by omega
      have hjl2:¬(x.m.kids.length:Int) < (x.m.kids.length:Int):=by omega
      go_wp2_with fail
      (try simp only [Exit.inBlock,Exit.then])
      refine bodyPost_end (results_none rfl _ _ _) rfl ?_
      refine⟨X3,g3,cap3,?_,⟨_,rfl⟩,HOld3.out,HM3.out⟩
      rw [HMs3.out,List.take_length]
      simp only [if_true]
      rw [← HΨ.out,HWe.out,HXk.out,List.map_cons]
      congr 2
      unfold cpN
      rw [ndM_lv Hi.out,if_pos rfl,HXm.out]
end Go.Proofs.YtfelmdkeaacfeaaGreatDoor.W
end
