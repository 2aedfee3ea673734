/- Texts joined: DpL App Add Ins. -/
import Derived.Test.YtfelmdkeaacfeaaGreatDoorTB1
import Derived.Test.YtfelmdkeaacfeaaGreatDoorTB6
import Derived.Test.YtfelmdkeaacfeaaGreatDoorTB4
import Derived.Deep.AppendLies
import Derived.Deep.RegionLaw
import Derived.Test.YtfelmdkeaacfeaaGreatDoorTB5
set_option maxRecDepth 100000
set_option maxHeartbeats 40000000
set_option linter.unusedVariables false
set_option linter.unusedSimpArgs false
section
namespace Go.Proofs.YtfelmdkeaacfeaaGreatDoor.W
open Go
theorem hang {S:Tr}{K:Nat→List Nat}{d:Nat→Nat}(h:Lk S K d){p c:Nat}(hp:(S.at p).isSome=true)(hc:(S.at c).isSome=true)(hdet:∀q,c∉K q)(T:Nat→Prop) [DecidablePred T] (hTc:T c)(hTp:¬T p)
  (hT:∀q k,k∈K q→(T q↔T k))(hTt:∀x,T x→(S.at x).isSome=true→(∀q,x∉K q)→x=c)(hdp:∀x,T x→d x+d p≤128) :
  ∀S',Linked S S' (K p) p (K p).length c→Lk S' (jK K p (K p).length c) (fun x=>if T x then d x+d p else d x):=by
 intro S' hl
 obtain⟨np,hp⟩:=aB.1 hp
 obtain⟨nc,hc⟩:=aB.1 hc
 have hpc:p≠c:=by rintro rfl;exact hTp hTc
 refine Lk.link h hp hc (au _) hdet hpc hl.at_ hl.len hl.hd ?_ ?_ ?_ ?_ ?_
 ·simp only [aC hTc,ax hTp]
  rw [h.one c (by rw [hc];rfl) hdet];omega
 ·intro q k hk
  have h1:=hT q k hk
  have h2:=h.qc q k hk
  by_cases e:T q
  ·simp only [aC e,aC (h1.1 e)];omega
  ·simp only [ax e,ax (fun x=>e (h1.2 x))];omega
 ·simp only [ax hTp]
 ·intro x
  by_cases e:T x
  ·simp only [aC e];exact hdp x e
  ·simp only [ax e];exact h.low x
 ·intro x hx hxc hq
  have:¬T x:=fun e=>hxc (hTt x e hx hq)
  simp only [ax this]
  exact h.one x hx hq
structure C1 (S:Tr) (K:Nat→List Nat) (d:Nat→Nat) (p i:Nat):Prop where
 dp:Dp S K d
 at_:(S.at p).isSome=true
 leaf:K p=[]
 qc:d p=min (i+1) 128
 zero:p=0↔i=0
 len:S.slots.length=i+1
abbrev KW (c:UInt8) (S:Tr):Tr:=S.snoc (vO 2 [c])
theorem MZ:NC 112:=.inr (.inr rfl)
def LQ (S:Tr)(d:Nat→Nat)(x:Nat):Nat:=if x=S.slots.length then 1 else d x
def Vj (d:Nat→Nat)(T:Nat→Prop) [DecidablePred T] (p x:Nat):Nat:=if T x then d x+d p else d x
theorem QS {S:Tr}{i:Nat}(h:(S.at i).isSome=true):i < S.slots.length:=by obtain⟨n,hn⟩:=aB.1 h;exact iy hn
theorem JL {S:Tr}{n:Nd}{i:Nat}(h:(S.at i).isSome=true):(S.snoc n).at i=S.at i:=by rw [mQ,ax (by have:=QS h;omega)]
theorem JM (S:Tr)(n:Nd):(S.snoc n).at S.slots.length=some n:=by rw [mQ,aC rfl]
theorem C1.made {S K d p i}{c:UInt8}(hc:NC c)(h:C1 S K d p i)(hi:i < 1000):Dp (KW c S) K (LQ S d)∧((KW c S).at p).isSome=true∧LQ S d p=min (i+1) 128∧p≠i+1∧(∀q,i+1∉K q)∧K (i+1)=[]∧(KW c S).at (i+1)=some (vO 2 [c]):=by
 have hn:S.at (i+1)=none:=yG (by rw [h.len];omega)
 have hpl:=QS h.at_
 have hlen:=h.len
 refine⟨h.dp.snoc hc (by omega),by rw [JL h.at_];exact h.at_,?_,by omega,h.dp.lk.DT hn,h.dp.lk.wO hn,?_⟩
 ·unfold LQ;rw [ax (by omega)];exact h.qc
 ·rw [← h.len];exact JM S _
theorem C1.lk {S K d p i}{c:UInt8}(hl':NC c)(h:C1 S K d p i)(hi:i < 1000)(h128:i+2≤128):∀S',Linked (KW c S) S' (K p) p (K p).length (i+1)→Lk S' (jK K p (K p).length (i+1)) (Vj (LQ S d) (fun x=>x=i+1) p):=by
 obtain⟨a1,a2,a3,a4,a5,a6,a7⟩:=C1.made hl' h hi
 refine hang a1.lk a2 (by rw [a7];rfl) a5 (fun x=>x=i+1) rfl a4 ?_ ?_ ?_
 ·intro q k hk
  constructor
  ·rintro rfl;rw [a6] at hk;cases hk
  ·rintro rfl;exact absurd hk (a5 q)
 ·intro x hx _ _;exact hx
 ·rintro x rfl
  have:LQ S d (i+1)=1:=by unfold LQ;rw [aC h.len.symm]
  omega
theorem C1.may {S K d p i}{c:UInt8}(hl':NC c)(h:C1 S K d p i)(hi:i < 1000){np nc:Nd}(hp:(KW c S).at p=some np)(hc:(KW c S).at (i+1)=some nc):nU (KW c S) K (LQ S d) p (i+1) np nc=true:=by
 obtain⟨a1,a2,a3,a4,a5,a6,a7⟩:=C1.made hl' h hi
 exact a1.RF hp hc (by omega) (fun e=>by subst e;exact h.leaf) (fun x=>x≠i+1) (fun x y hx _=>by rintro rfl;rw [a6] at hx;cases hx) (fun h=>h rfl) a4
structure C2 (S:Tr) (K:Nat→List Nat) (d:Nat→Nat) (p D N y:Nat):Prop where
 dp:Dp S K d
 at_:(S.at p).isSome=true
 leaf:K p=[]
 qc:d p=D
 pN:p < N
 Ny:N≤y
 len:S.slots.length=y+1
 chain:∀j,N≤j→j < y→K j=[j+1]
 last:K y=[]
 deps:∀j,N≤j→j≤y→d j=j - N+1
 apart:∀q k,k∈K q→(N≤q↔N≤k)
 top:∀q,N∉K q
theorem IP (b s:Int):Lk ⟨b,s,[some (vO 1 [])],[],hdl b s 0⟩ (fun _=>[]) (fun _=>1):=by
 have hat:∀i n,(⟨b,s,[some (vO 1 [])],[],hdl b s 0⟩:Tr).at i=some n→n=vO 1 []:=fun i n hi=>by
  cases i with
  | zero=>cases hi;rfl
  | succ i=>simp [Tr.at] at hi
 refine⟨fun p k hk=>(by simp at hk),fun i n hi=>?_,fun p j k n hk _=>(by simp at hk),fun i n hi _=>?_,fun p=>uK,fun p k hk=>(by simp at hk),fun _ _ _=>rfl,fun _=>by omega,by simp⟩
 ·rw [hat i n hi];exact⟨rfl,rfl⟩
 ·rw [hat i n hi];exact⟨rfl,rfl,rfl⟩
theorem Pz (b s:Int):C1 ⟨b,s,[some (vO 1 [])],[],hdl b s 0⟩ (fun _=>[]) (fun _=>1) 0 0:=by
 refine⟨⟨IP b s,rfl,rfl,?_,⟨vO 1 [],rfl,rfl,rfl,rfl,rfl,rfl⟩,?_,fun p=>(by simp),by simp⟩,rfl,rfl,rfl,by simp,rfl⟩
 ·intro i hi
  simp at hi
  subst hi
  rfl
 ·intro i n hi hx
  cases i with
  | zero=>exact absurd rfl hi
  | succ i=>simp [Tr.at] at hx
end Go.Proofs.YtfelmdkeaacfeaaGreatDoor.W
end
section
namespace Go.Proofs.YtfelmdkeaacfeaaGreatDoor.W
open Go.RowKit
structure ET (P:Program) (t e:TypeId) (size bytes:Nat):Prop where
 under:P.underlying t=some (.slice e)
 info:∃i z,P.info? e=some i∧i.zero=some z∧i.size=size∧i.bytes=bytes∧z.cells.size=size
 pos:0 < size
theorem ET.mk' {P:Program}{t e:TypeId}{size bytes:Nat}{z:Value}(h:P.underlying t=some (.slice e))(hi:(P.info? e).map (fun i=>(i.zero,i.size,i.bytes))=some (some z,size,bytes))(hz:z.cells.size=size)(hp:0 < size):ET P t e size bytes:=by
 obtain⟨i,h1,h2,h3,h4⟩:=WY hi
 exact⟨h,⟨i,z,h1,h2,h3,h4,hz⟩,hp⟩
theorem iM {w:World}{e:TypeId}{size n g cap:Nat}{xs:List Value}(h:Own w e size (.slice (some ⟨g,0,none⟩) n cap) n xs)(j:Nat)(u:Value)(hu:xs[j]? = some u):w.cell? ((⟨g,0,none⟩:Addr).add j)=some u:=by
 have hj:j < n*size:=by rw [← h.1];exact(ai.1 hu).1
 have:=h.cellAt j hj
 rw [hu] at this
 rw [aP]
 simpa using this
theorem Dz {P:Program}{t ty e:TypeId}{size bytes:Nat}(hT:ET P t e size bytes){B:Nat}{w0 w:World}(l1:List Ob){l2:List Ob}{dv:Value}{n:Nat}{xs:List Value}
  (h:All B w0 (l1 ++ sl e size dv n xs :: l2) w){sv:Value}{m:Nat}{ys:List Value}(hs:Own w e size sv m ys)(h1:∀u∈ys,u.oneCell'=true)(hlen:n+m≤1000000000)(hby:bytes≤1000) :
  ∃v' w',(Builtin.append_ #[t,t] ty #[dv,sv]).run P w=.ok v' w'∧All B w0 (l1 ++ sl e size v' (n+m) (xs ++ ys) :: l2) w':=by
 obtain⟨i,z,hi,hz0,hz1,hz2,hz3⟩:=hT.info
 have hown:Own w e size dv n xs:=h.mid
 rcases hs.2 with ⟨rfl,rfl⟩ | ⟨g,cap,cur,rfl,_⟩
 ·have hy:ys=[]:=nO.1 (by rw [hs.1];omega)
  subst hy
  refine⟨dv,w,run_append_owned_none w 0 t ty e i size hT.under hi dv n xs hown,?_⟩
  rw [aT]
  exact h
 ·have hmul:(n+m)*bytes≤1000000000*1000:=WR hlen hby
  obtain⟨v',w',hr,h2,h3,_,h5⟩:=ve (P:=P) w 0 t ty e i z size bytes hT.under hi hz0 hz1 hz2 hz3 hT.pos dv n xs hown ⟨g,0,none⟩ m cap ys hs.1 (iM hs) h1 (by unfold maxLen;omega) (by omega) (aZ _)
  refine⟨v',w',hr,h.step l1 (o':=sl e size v' (n+m) (xs ++ ys)) h2 ((dU.refl _ _).grown h3 (fun k hk _=>hk)) ?_⟩
  intro k hk
  have hk':v'.ownBlock=some k:=hk
  rcases h5 with h5 | h5
  ·exact .inl (show dv.ownBlock=some k by rw [← h5];exact hk')
  ·right
   rw [h5] at hk'
   have:=cO hk'
   omega
theorem xx {P:Program}{t e:TypeId}{size bytes:Nat}(hT:ET P t e size bytes){B:Nat}{w0 w:World}(l1:List Ob){l2:List Ob}{dv:Value}{n:Nat}{xs:List Value}
  (h:All B w0 (l1 ++ sl e size dv n xs :: l2) w){sv:Value}{m:Nat}{ys:List Value}(hs:Own w e size sv m ys)(h1:∀u∈ys,u.oneCell'=true)(hlen:n+m≤1000000000)(hby:bytes≤1000)
  {o:Oper}{a:Act}{K:Act→World→Prop}{Q:Exit→Act→World→Prop}(s x:Operand)(ho:o.op=.call { callee:=.builtin .append,args:=#[s,x],argTypes:=#[t,t] })(hd:a.eval s=dv)(hx:a.eval x=sv)
  (hc:∀v' w',All B w0 (l1 ++ sl e size v' (n+m) (xs ++ ys) :: l2) w'→K (a.put o.dst v') w'):o.wp P a w K Q:=by
 obtain⟨v',w',hr,h2⟩:=Dz (ty:=o.type) hT l1 h hs h1 hlen hby
 unfold Oper.wp execOp
 simp only [ho,resolve,invoke,builtin,WU,Sem.run_pure,Result.andThen_ok,vk,fE,jZ,hd,hx,hr]
 exact hc v' w' h2
theorem lK {P:Program}{t e:TypeId}{size bytes:Nat}(hT:ET P t e size bytes){B:Nat}{w0 w:World}(l1:List Ob){l2:List Ob}{dv:Value}{n:Nat}{xs:List Value}
  (h:All B w0 (l1 ++ sl e size dv n xs :: l2) w){sv:Value}{m:Nat}{ys:List Value}(hs:Own w e size sv m ys)(h1:∀u∈ys,u.oneCell'=true)(hlen:n+m≤1000000000)(hby:bytes≤1000)
  {ops:Array Oper}{rest:List Oper}{o:Oper}{a:Act}{Q:Exit→Act→World→Prop}(hgd:o.guard=none)(s x:Operand)(ho:o.op=.call { callee:=.builtin .append,args:=#[s,x],argTypes:=#[t,t] })(hd:a.eval s=dv)(hx:a.eval x=sv)
  (hc:∀v' w',All B w0 (l1 ++ sl e size v' (n+m) (xs ++ ys) :: l2) w'→wpList P ops Q rest (a.put o.dst v') w'):wpList P ops Q (o :: rest) a w :=
 wpList_plain hgd fun K hK=>xx hT l1 h hs h1 hlen hby s x ho hd hx fun v' w' h'=>hK _ _ (hc v' w' h')
theorem fB {P:Program}{t e:TypeId}{size bytes:Nat}(hT:ET P t e size bytes){B:Nat}{w0 w:World}(l1:List Ob){l2:List Ob}{dv:Value}{n:Nat}{xs:List Value}
  (h:All B w0 (l1 ++ sl e size dv n xs :: l2) w){sv:Value}{m:Nat}{ys:List Value}(hs:Own w e size sv m ys)(h1:∀u∈ys,u.oneCell'=true)(hlen:n+m≤1000000000)(hby:bytes≤1000)
  {ops:Array Oper}{E:Prop}{o:Oper}{a:Act}{K:Act→World→Prop}{Q:Exit→Act→World→Prop}(hgd:o.guard=none)(s x:Operand)(ho:o.op=.call { callee:=.builtin .append,args:=#[s,x],argTypes:=#[t,t] })(hd:a.eval s=dv)(hx:a.eval x=sv)
  (hc:∀v' w',All B w0 (l1 ++ sl e size v' (n+m) (xs ++ ys) :: l2) w'→K (a.put o.dst v') w'):if Region.wanted o (yielded ops a.tmps)=true then Oper.wp P o a w K Q else E:=by
 have hw:Region.wanted o (yielded ops a.tmps)=true:=by simp [Region.wanted,hgd]
 rw [aC hw]
 exact xx hT l1 h hs h1 hlen hby s x ho hd hx hc
theorem jg {w:World}{g n e size:Nat}{cs:List Value}(h:dD w g cs e)(hl:cs.length=n*size)(hn:n≤1000000000):Own w e size (.slice (some ⟨g,0,none⟩) n n) n cs :=
 ⟨hl,.inr ⟨g,n,cs.toArray,rfl,aZ _,h,au _,by unfold maxLen;omega,by simpa using hl,by rw [← hl];simp⟩⟩
theorem All.sN {B:Nat}{w0 w:World}{l:List Ob}(h:All B w0 l w)(e:TypeId)(size n:Nat)(cs:List Value)(hl:cs.length=n*size)(hn:n≤1000000000) :
  All B w0 (sl e size (.slice (some ⟨w.heap.size,0,none⟩) n n) n cs :: l) (w.alloc (.cells cs.toArray e)) :=
 h.new (jg (dD.new w cs e) hl hn) ((ak _ _).alloc (au _) _) (fun k hk=>Nat.le_of_eq (by simpa [sl,Value.ownBlock] using hk))
theorem All.PT {B:Nat}{w0 w:World}{l:List Ob}(h:All B w0 l w)(g:Nat)(hg:w.heap.size=g)(cs:List Value)(t:TypeId):All B w0 (bk g cs t :: l) (w.alloc (.cells cs.toArray t)):=hg ▸ h.sO cs t
theorem All.KU {B:Nat}{w0 w:World}{l:List Ob}(h:All B w0 l w)(g:Nat)(hg:w.heap.size=g)(e:TypeId)(size n:Nat)(cs:List Value)(hl:cs.length=n*size)(hn:n≤1000000000) :
  All B w0 (sl e size (.slice (some ⟨g,0,none⟩) n n) n cs :: l) (w.alloc (.cells cs.toArray e)):=hg ▸ h.sN e size n cs hl hn
theorem All.UZ {B:Nat}{w0 w:World}(l1:List Ob){l2:List Ob}{g n cap size:Nat}{e:TypeId}{xs:List Value}(h:All B w0 (l1 ++ sl e size (.slice (some ⟨g,0,none⟩) n cap) n xs :: l2) w)(j:Nat)(u:Value) :
  All B w0 (l1 ++ sl e size (.slice (some ⟨g,0,none⟩) n cap) n (xs.set j u) :: l2) (w.setCell ⟨g,j,none⟩ u) :=
 h.step l1 (o':=sl e size (.slice (some ⟨g,0,none⟩) n cap) n (xs.set j u)) (tZ h.mid j u) ((dU.refl (sl e size (.slice (some ⟨g,0,none⟩) n cap) n xs).F w).setCell ⟨g,j,none⟩ (fun _=>(rfl:some g=some g)) u) (fun k hk=>.inl hk)
theorem We:ET Tryz.prog 53 159 10 112:=ET.mk' (z:=.agg #[.bool false,.int .i64 0,.string ⟨#[]⟩,.slice none 0 0,.string ⟨#[]⟩,.int .i64 0,.int .i64 0,.int .i64 0,.int .i64 0,.int .i64 0]) Tryz.underlying53 (by kernel_rfl) rfl (by omega)
theorem jO {P:Program}{t e:TypeId}{size bytes:Nat}(hT:ET P t e size bytes){B:Nat}{w:World}{dv:Value}{n:Nat}{xs:List Value}(hown:w.ownsRow B e size dv n xs)(hB:B≤w.heap.size)
  {g m cap:Nat}{ys:List Value}(hs:Own w e size (.slice (some ⟨g,0,none⟩) m cap) m ys)(h1:∀u∈ys,u.oneCell'=true)(hlen:n+m≤1000000000)(hby:bytes≤1000)
  {ops:Array Oper}{E:Prop}{o:Oper}{a:Act}{K:Act→World→Prop}{Q:Exit→Act→World→Prop}(hgd:o.guard=none)(s x:Operand)(ho:o.op=.call { callee:=.builtin .append,args:=#[s,x],argTypes:=#[t,t] })(hd:a.eval s=dv)(hx:a.eval x=.slice (some ⟨g,0,none⟩) m cap)
  (hc:∀v' w',w'.ownsRow B e size v' (n+m) (xs ++ ys)→w.grownBy w' dv.ownBlock→(v'.ownBlock=dv.ownBlock∨v'.ownBlock=some w.heap.size)→K (a.put o.dst v') w'):if Region.wanted o (yielded ops a.tmps)=true then Oper.wp P o a w K Q else E:=by
 have hw:Region.wanted o (yielded ops a.tmps)=true:=by simp [Region.wanted,hgd]
 rw [aC hw]
 obtain⟨i,z,hi,hz0,hz1,hz2,hz3⟩:=hT.info
 have hmul:(n+m)*bytes≤1000000000*1000:=WR hlen hby
 obtain⟨v',w',hr,h2,h3,_,h5⟩:=ve (P:=P) w B t o.type e i z size bytes hT.under hi hz0 hz1 hz2 hz3 hT.pos dv n xs hown ⟨g,0,none⟩ m cap ys hs.1 (iM hs) h1 (by unfold maxLen;omega) (by omega) hB
 unfold Oper.wp execOp
 simp only [ho,resolve,invoke,builtin,WU,Sem.run_pure,Result.andThen_ok,vk,fE,jZ,hd,hx,hr]
 exact hc v' w' h2 h3 h5
theorem NT (l:List (Option Nd))(n:Nd):nS (l ++ [some n])=nS l ++ jB (some n):=by unfold nS;simp
theorem fZ.snoc {B R:Nat}{S:Tr}{sv sv' fv:Value}{w w':World}{n:Nd}(h:fZ B R S sv fv w)(hn:jA B w n.av n.attrs)(hl:S.slots.length < 1000000)(k:dU (fun k=>k=R∨sv.ownBlock=some k) w w')
  (hs:w'.ownsRow B 159 10 sv' (S.slots.length+1) (nS S.slots ++ jB (some n)))
  (hb:dD w' R [.int .i64 S.b,.int .i64 S.s,sv',fv,.int .i64 (S.live+1:Nat),.int .i64 S.root] 57):fZ B R (S.snoc n) sv' fv w':=by
 have hnsv:∀{g:Nat} {cs:Array Value} {t:TypeId},w.heap[g]? = some (.cells cs t (0,0))→t≠159→t≠57→w'.heap[g]? = w.heap[g]?:=fun {g cs t} hg h1 h2=>by
  refine k.block g (gp hg) ?_
  rintro(rfl | e)
  ·exact dw hg h.blk h2 rfl
  ·rcases h.slots.2 with ⟨e2,_⟩ | ⟨g',cap',cur',e1,e2,e3,rest⟩
   ·rw [e2] at e;cases e
   ·rw [e1] at e
    cases e
    exact dw hg e3 h1 rfl
 refine⟨?_,?_,?_,?_,h.base,?_⟩
 ·rw [Oi];exact hb
 ·rw [show(S.snoc n).slots=S.slots ++ [some n] from rfl,NT,aA,List.length_singleton];exact hs
 ·obtain⟨h1,h2⟩:=h.free
  exact⟨h1,h2.imp id fun⟨g',cap',cur',e1,e2,e3,rest⟩=>⟨g',cap',cur',e1,e2,(hnsv e3 (by decide) (by decide)).trans e3,rest⟩⟩
 ·intro i m hi
  have hold:jA B w m.av m.attrs:=by
   have hi':(S.snoc n).at i=some m:=nX hi
   rw [mQ] at hi'
   by_cases e:i=S.slots.length
   ·rw [aC e] at hi';cases hi';exact hn
   ·rw [ax e] at hi';exact h.attrs i m (dN hi')
  obtain⟨a,cp,e,hx⟩:=hold
  exact⟨a,cp,e,hx.imp id fun⟨g',cur',e1,e2,e3,e4⟩=>⟨g',cur',e1,e2,(hnsv e3 (by decide) (by decide)).trans e3,e4⟩⟩
 ·rw [vF];omega
theorem fZ.PE {B R:Nat}{S:Tr}{sv fv:Value}{w:World}(h:fZ B R S sv fv w):sv.ownBlock≠some R:=by
 rcases h.slots.2 with ⟨e2,_⟩ | ⟨g',cap',cur',e1,e2,e3,rest⟩
 ·rw [e2];intro e;cases e
 ·rw [e1]
  intro e
  cases e
  exact dw e3 h.blk (by decide) rfl
theorem PG {B:Nat}{w:World}{n:Nd}(hn:jA B w n.av n.attrs):∀u∈jB (some n),u.oneCell'=true:=by
 obtain⟨a,cp,e,_⟩:=hn
 intro u hu
 simp only [jB,jd,bn,iH,rP] at hu
 rcases hu with rfl | rfl | rfl | rfl | rfl | rfl | rfl | rfl | rfl | rfl
 all_goals first | rfl | (rw [e];rfl)
theorem gW {w w':World}{B e sz n:Nat}{v:Value}{xs:List Value}(h:w.ownsRow B e sz v n xs)(k:∀g,v.ownBlock=some g→w'.heap[g]? = w.heap[g]?):w'.ownsRow B e sz v n xs:=by
 refine⟨h.1,h.2.imp id ?_⟩
 rintro⟨g',cap',cur',e1,e2,e3,rest⟩
 exact⟨g',cap',cur',e1,e2,(k g' (by rw [e1];rfl)).trans e3,rest⟩
theorem gJ {w:World}{B e sz n g:Nat}{v:Value}{xs:List Value}(h:w.ownsRow B e sz v n xs)(hg:v.ownBlock=some g):∃cur,w.heap[g]? = some (.cells cur e (0,0)):=by
 rcases h.2 with ⟨e2,_⟩ | ⟨g',cap',cur',e1,e2,e3,rest⟩
 ·rw [e2] at hg;cases hg
 ·rw [e1] at hg;cases hg;exact⟨cur',e3⟩
theorem Iq {B R:Nat}{S:Tr}{sv fv:Value}{w:World}(h:fZ B R S sv fv w)(hf:S.free=[])(hl:S.slots.length < 1000000)(n:Nd)(hn:jA B w n.av n.attrs) :
  Calls Tryz.prog 85 #[.pointer (some ⟨R,0,none⟩),.agg #[.int .i64 n.kind,.string ⟨n.name.toArray⟩,n.av,.string ⟨n.data.toArray⟩,.int .i64 n.parent,.int .i64 n.first,.int .i64 n.last,.int .i64 n.prev,.int .i64 n.next]] w fun e w'=>∃sv',e=.returned (.int .i64 (S.hd S.slots.length)) ∧
   fZ B R (S.snoc n) sv' fv w'∧dU (fun k=>k=R∨sv.ownBlock=some k) w w'∧(sv'.ownBlock=sv.ownBlock∨∃k,sv'.ownBlock=some k∧w.heap.size≤k):=by
 have c0:=h.blk.cell 0
 have c1:=h.blk.cell 1
 have c2:=h.blk.cell 2
 have c3:=h.blk.cell 3
 have c4:=h.blk.cell 4
 have hlt:=h.blk.lt
 simp only [fQ,fP] at c0 c1 c2 c3 c4
 obtain⟨a0,cap0,rfl⟩:=vG h
 obtain⟨fa,fcap,rfl⟩:=bP h.free
 rw [hf,List.length_nil] at c3
 have hBw:B≤w.heap.size:=aQ h.base (Xf hlt)
 have hlv:S.live≤S.slots.length:=gU _ _
 have H1:=ae (PG hn)
 obtain⟨av,acap,hav,_⟩:=id hn
 have HT:=ae h
 have HN:=ae hn
 have hB1:=(ak w.heap.size w).alloc (au _) (.cells #[.int .i64 n.kind,.string ⟨n.name.toArray⟩,n.av,.string ⟨n.data.toArray⟩,.int .i64 n.parent,.int .i64 n.first,.int .i64 n.last,.int .i64 n.prev,.int .i64 n.next] 62)
 have hbx:=dD.new w [.int .i64 n.kind,.string ⟨n.name.toArray⟩,n.av,.string ⟨n.data.toArray⟩,.int .i64 n.parent,.int .i64 n.first,.int .i64 n.last,.int .i64 n.prev,.int .i64 n.next] 62
 have nb:R≠w.heap.size:=by omega
 have nb2:w.heap.size≠R:=by omega
 rw [hav] at hB1 hbx ⊢
 clear hn h
 go_enter Tryz.func85,Tryz.ntmps85
 go_wp2_with fail
 have hB1':=ae hB1
 have HX:=ae hbx
 have e0:=aU hB1 c0
 have e1:=aU hB1 c1
 have e2:=aU hB1 c2
 have e4:=aU hB1 c4
 have y0:=hbx.cell 0
 have y1:=hbx.cell 1
 have y2:=hbx.cell 2
 have y3:=hbx.cell 3
 have y4:=hbx.cell 4
 have y5:=hbx.cell 5
 have y6:=hbx.cell 6
 have y7:=hbx.cell 7
 have y8:=hbx.cell 8
 simp only [fQ,fP] at y0 y1 y2 y3 y4 y5 y6 y7 y8
 have HT1:=ae (HT.out.below hB1)
 have hgW:=aO hlt hB1.size
 have hbW:=aQ hBw hB1.size
 clear hB1 hbx c0 c1 c2 c4
 generalize hW:w.alloc (.cells #[.int .i64 n.kind,.string ⟨n.name.toArray⟩,.slice av n.attrs.length acap,.string ⟨n.data.toArray⟩,.int .i64 n.parent,.int .i64 n.first,.int .i64 n.last,.int .i64 n.prev,.int .i64 n.next] 62)=W at *
 have hBd:Below W.heap.size W (W.drew.alloc (.cells #[.bool true,.int .i64 n.kind,.string ⟨n.name.toArray⟩,.slice av n.attrs.length acap,.string ⟨n.data.toArray⟩,.int .i64 n.parent,.int .i64 n.first,.int .i64 n.last,.int .i64 n.prev,.int .i64 n.next] 159)):=((ak W.heap.size W).drew).alloc (au _) _
 have HO:=ae (fH HT1.out.slots hBd)
 have HS:=ae (jg (n:=1) (size:=10) (dD.new W.drew [.bool true,.int .i64 n.kind,.string ⟨n.name.toArray⟩,.slice av n.attrs.length acap,.string ⟨n.data.toArray⟩,.int .i64 n.parent,.int .i64 n.first,.int .i64 n.last,.int .i64 n.prev,.int .i64 n.next] 159) rfl (by omega))
 have HB:=ae hBd
 have HR:=ae (HT1.out.blk.below hBd)
 have H2:=ae (show ∀u∈([.bool true,.int .i64 n.kind,.string ⟨n.name.toArray⟩,.slice av n.attrs.length acap,.string ⟨n.data.toArray⟩,.int .i64 n.parent,.int .i64 n.first,.int .i64 n.last,.int .i64 n.prev,.int .i64 n.next]:List Value),u.oneCell'=true by have:=H1.out;simp only [jB,jd,hav,dA] at this;exact this)
 have HNE:=ae HT1.out.PE
 clear hBd
 go_region_law (first
   | (refine jO We HO.out (by have:=HB.out.size;omega) HS.out H2.out (by omega) (by omega) (by rfl) _ _ (by rfl) (by rfl) (by rfl) ?_;intro v' w1 ho hgr hvb;
       obtain⟨va,vc,rfl⟩:=bP ho;have b1:=HR.out.kept (hgr.block R HR.out.lt (fun e=>HNE.out e.symm));have d0:=b1.cell 0;have d1:=b1.cell 1;have d2:=b1.cell 2;have d4:=b1.cell 4;have df:=b1.free;
       simp only [fQ,fP] at d0 d1 d2 d4;have kb:=ae b1;have ks:=ae ho;have kg:=ae hgr;have kv:=ae hvb;clear ho hgr hvb b1))
 all_goals
  go_wp2_with fail
  refine(yh S.b S.s (S.slots.length:Nat) _).mono ?_
  rintro e w2 ⟨rfl,hb2⟩
  go_wp2_with fail
  go_ret
  have hbl:=kb.out
  have hk1:dU (fun k=>k=R∨(Value.slice a0 S.slots.length cap0).ownBlock=some k) w w1:=((dU.of_below hB1'.out).trans (dU.of_below HB.out) (fun _ _ h=>h)).grown kg.out (fun k e _=>.inr e)
  refine⟨.slice va (S.slots.length+1) vc,rfl,HT.out.snoc HN.out hl (((hk1.setCell ⟨R,2,none⟩ (fun _=>.inl rfl) _).setCell ⟨R,4,none⟩ (fun _=>.inl rfl) _).trans (dU.of_below hb2) (fun _ _ h=>h)) ?_ ?_,(((hk1.setCell ⟨R,2,none⟩ (fun _=>.inl rfl) _).setCell ⟨R,4,none⟩ (fun _=>.inl rfl) _).trans (dU.of_below hb2) (fun _ _ h=>h)),?_⟩
  ·have hsl:jB (some n)=([.bool true,.int .i64 n.kind,.string ⟨n.name.toArray⟩,.slice av n.attrs.length acap,.string ⟨n.data.toArray⟩,.int .i64 n.parent,.int .i64 n.first,.int .i64 n.last,.int .i64 n.prev,.int .i64 n.next]:List Value):=by simp only [jB,jd,hav,dA]
   rw [hsl]
   refine gW ks.out (fun g hg=>?_)
   obtain⟨cur,hcur⟩:=gJ ks.out hg
   have hne:R≠g:=fun e=>dw hcur hbl (by decide) e.symm
   have hg1:=gp hcur
   refine(hb2.block g (by simpa using hg1)).trans ?_
   exact(aF _ _ _ _ (fun e=>hne e.symm)).trans (aF _ _ _ _ (fun e=>hne e.symm))
  ·have:=((hbl.set 2 (.slice va (S.slots.length+1) vc)).set 4 (.int .i64 ((S.live:Int)+1))).below hb2
   exact this
  ·rcases kv.out with e | e
   ·exact .inl e
   ·exact .inr ⟨_,e,by have h1:=hB1'.out.size;have h2:=HB.out.size;omega⟩
theorem Vx:ET Tryz.prog 34 41 11 104:=ET.mk' (z:=.agg #[.int .i64 0,.int .i64 0,.int .i64 0,.int .i64 0,.int .i64 0,.int .i64 0,.string ⟨#[]⟩,.string ⟨#[]⟩,.bool false,.int .i64 0,.int .i64 0]) Tryz.underlying34 (by kernel_rfl) rfl (by omega)
theorem lD {P:Program}{t e:TypeId}{size bytes:Nat}(hT:ET P t e size bytes){B:Nat}{w:World}{dv:Value}{n:Nat}{xs:List Value}(hown:w.ownsRow B e size dv n xs)(hB:B≤w.heap.size)
  {g m cap:Nat}{ys:List Value}(hs:Own w e size (.slice (some ⟨g,0,none⟩) m cap) m ys)(h1:∀u∈ys,u.oneCell'=true)(hlen:n+m≤1000000000)(hby:bytes≤1000)
  {ops:Array Oper}{rest:List Oper}{o:Oper}{a:Act}{Q:Exit→Act→World→Prop}(hgd:o.guard=none)(s x:Operand)(ho:o.op=.call { callee:=.builtin .append,args:=#[s,x],argTypes:=#[t,t] })(hd:a.eval s=dv)(hx:a.eval x=.slice (some ⟨g,0,none⟩) m cap)
  (hc:∀v' w',w'.ownsRow B e size v' (n+m) (xs ++ ys)→w.grownBy w' dv.ownBlock→(v'.ownBlock=dv.ownBlock∨v'.ownBlock=some w.heap.size)→wpList P ops Q rest (a.put o.dst v') w'):wpList P ops Q (o :: rest) a w:=by
 refine wpList_plain hgd fun K hK=>?_
 have:=jO (P:=P) hT hown hB hs h1 hlen hby (ops:=ops) (E:=False) (o:=o) (a:=a) (K:=K) (Q:=Q) hgd s x ho hd hx (fun v' w' h1 h2 h3=>hK _ _ (hc v' w' h1 h2 h3))
 have hw:Region.wanted o (yielded ops a.tmps)=true:=by simp [Region.wanted,hgd]
 rwa [aC hw] at this
abbrev sG (w:World) (B:Nat) (v:Value) (l:List (List Value)):Prop:=w.ownsRow B 41 11 v l.length l.flatten
theorem Ls {B R g cap:Nat}{S:Tr}{fv:Value}{w:World}{K:Nat→List Nat}{d d':Nat→Nat}(h:fZ B R S (.slice (some ⟨g,0,none⟩) S.slots.length cap) fv w)(hL:Lk S K d)(p c:Nat)(np nc:Nd)(hp:S.at p=some np)(hc:S.at c=some nc)(hpc:p≠c)
  (hdet:∀q,c∉K q)(hmay:nU S K d p c np nc=true)(hdep:d p+hgt K (128 - d c) c≤128)(hL':∀S',Linked S S' (K p) p (K p).length c→Lk S' (jK K p (K p).length c) d') :
  Calls Tryz.prog 16 #[.pointer (some ⟨R,0,none⟩),.int .i64 (S.hd p),.int .i64 (S.hd c),.int .i64 0] w fun e w'=>∃S' v,Linked S S' (K p) p (K p).length c∧e=.returned (.tuple #[v,.int .i64 0]) ∧
   sG w' w.heap.size v [recC 1 (S.hd p) (S.hd c) np.last 0 (K p).length [] [] false 0 0] ∧
   fZ B R S' (.slice (some ⟨g,0,none⟩) S'.slots.length cap) fv w'∧dU (fun k=>k=g) w w':=by
 have HP:=ae (fun wx (hb:Below w.heap.size w wx)=>bV (h.below hb) (S.hd p) (hd_ok hL hp).1 (fV hL hp))
 have HC:=ae (fun wx (hb:Below w.heap.size w wx)=>bV (h.below hb) (S.hd c) (hd_ok hL hc).1 (fV hL hc))
 have HM:=ae (fun wx (hb:Below w.heap.size w wx)=>uk (h.below hb) hL p c np nc hp hc)
 rw [hmay] at HM
 have HD:=ae (fun wx (hb:Below w.heap.size w wx)=>wX (h.below hb) hL p np hp)
 have HH:=ae (fun wx (hb:Below w.heap.size w wx)=>height_any hL (128 - d c) c nc hc rfl wx (h.below hb))
 have HK:=ae (fun wx (hb:Below w.heap.size w wx)=>D5 (h.below hb) hL p c np nc hp hc hpc hdet hL')
 have H4:=ae (fun wx (hb:Below w.heap.size w wx)=>bK (h.below hb) hc 4 (by omega))
 have h0:=(hL.top c nc hc hdet).1
 have hne:¬(0:Int)=S.hd c:=by have:=(hd_ok hL hc).2;omega
 have hne2:((0:Int) == S.hd c)=false:=by simpa using hne
 have hhc:=ql K (128 - d c) c
 have hlow:=hL.low p
 clear h hL hp hc hdet hmay hL'
 go_enter Tryz.func16,Tryz.ntmps16
 go_wp2_with fail
 refine(HP.out _ (ak _ _)).mono ?_
 rintro e w1 ⟨rfl,hb1⟩
 go_wp2_with fail
 refine(HC.out _ hb1).mono ?_
 rintro e w2 ⟨rfl,hb2⟩
 have hB2:=aV hb1 hb2
 go_wp2_with fail
 refine(HM.out _ hB2).mono ?_
 rintro e w3 ⟨rfl,hb3⟩
 have hB3:=aV hB2 hb3
 go_wp2_with fail
 refine(HD.out _ hB3).mono ?_
 rintro e w4 ⟨rfl,hb4⟩
 have hB4:=aV hB3 hb4
 go_wp2_with fail
 refine(HH.out _ hB4).mono ?_
 rintro e w5 ⟨rfl,hb5⟩
 have hB5:=aV hB4 hb5
 generalize hgt K (128 - d c) c=hc1 at *
 have d5:decide ((128:Int) < (d p:Int)+(hc1:Int))=false:=by simp;omega
 go_wp2_with fail
 refine(HC.out _ hB5).mono ?_
 rintro e w6 ⟨rfl,hb6⟩
 have hB6:=aV hB5 hb6
 have c4:=H4.out _ hB6
 simp only [jd,fQ,fP] at c4
 rw [h0] at c4
 go_wp2_with fail
 clear c4 H4
 refine(HK.out _ hB6).mono ?_
 rintro e w7 ⟨S',hlk,rfl,hT7,hC7⟩
 have HT7:=ae hT7
 have HC7:=ae hC7
 have HB6:=ae hB6
 have hs7:=aQ hB6.size hC7.size
 clear hT7 hC7 hb1 hb2 hb3 hb4 hb5 hb6 hB2 hB3 hB4 hB5 hB6
 simp only [recC,dA]
 have HS:=ae (jg (n:=1) (size:=11) (dD.new w7 [.int .i64 1,.int .i64 (S.hd p),.int .i64 (S.hd c),.int .i64 np.last,.int .i64 0,.int .i64 ((K p).length:Int),.string ⟨#[]⟩,.string ⟨#[]⟩,.bool false,.int .i64 0,.int .i64 0] 41) rfl (by omega))
 have hs8:w.heap.size≤(w7.alloc (.cells #[.int .i64 1,.int .i64 (S.hd p),.int .i64 (S.hd c),.int .i64 np.last,.int .i64 0,.int .i64 ((K p).length:Int),.string ⟨#[]⟩,.string ⟨#[]⟩,.bool false,.int .i64 0,.int .i64 0] 41)).heap.size:=by simp;omega
 go_wp2_with (at_builtin;refine lD Vx (aG _ w.heap.size _ _) hs8 HS.out ?c1 (by omega) (by omega) rfl _ _ rfl rfl rfl ?_)
 case c1=>intro u hu;simp only [bn,iH,rP] at hu;rcases hu with rfl | rfl | rfl | rfl | rfl | rfl | rfl | rfl | rfl | rfl | rfl <;> rfl
 intro v' w8 ho hgr _
 have h8:Below w7.heap.size w7 w8:=((ak _ w7).alloc (au _) _).grown hgr (by simp) (fun k e=>by cases e)
 have HO:=ae ho
 have H8:=ae h8
 clear ho hgr h8 HS
 go_wp2_with fail
 go_ret2
 refine⟨S',v',hlk,rfl,?_,HT7.out.below H8.out,((dU.of_below HB6.out).trans HC7.out (fun _ _ h=>h)).trans (dU.of_below H8.out) (fun _ _ h=>h)⟩
 simpa [sG,recC,dA] using HO.out
theorem Jq {B R g cap:Nat}{S:Tr}{fv:Value}{w:World}{K:Nat→List Nat}{d:Nat→Nat}(h:fZ B R S (.slice (some ⟨g,0,none⟩) S.slots.length cap) fv w)(hL:Lk S K d)(p c:Nat)(np nc:Nd)(hp:S.at p=some np)(hc:S.at c=some nc)
  (hmay:nU S K d p c np nc=true)(hdep:128 < d p+hgt K (128 - d c) c) :
  Calls Tryz.prog 16 #[.pointer (some ⟨R,0,none⟩),.int .i64 (S.hd p),.int .i64 (S.hd c),.int .i64 0] w fun e w'=>e=.returned (.tuple #[.slice none 0 0,.int .i64 5])∧Below w.heap.size w w':=by
 have HP:=ae (fun wx (hb:Below w.heap.size w wx)=>bV (h.below hb) (S.hd p) (hd_ok hL hp).1 (fV hL hp))
 have HC:=ae (fun wx (hb:Below w.heap.size w wx)=>bV (h.below hb) (S.hd c) (hd_ok hL hc).1 (fV hL hc))
 have HM:=ae (fun wx (hb:Below w.heap.size w wx)=>uk (h.below hb) hL p c np nc hp hc)
 rw [hmay] at HM
 have HD:=ae (fun wx (hb:Below w.heap.size w wx)=>wX (h.below hb) hL p np hp)
 have HH:=ae (fun wx (hb:Below w.heap.size w wx)=>height_any hL (128 - d c) c nc hc rfl wx (h.below hb))
 have hhc:=ql K (128 - d c) c
 have hlow:=hL.low p
 clear h hL hp hc hmay
 go_enter Tryz.func16,Tryz.ntmps16
 go_wp2_with fail
 refine(HP.out _ (ak _ _)).mono ?_
 rintro e w1 ⟨rfl,hb1⟩
 go_wp2_with fail
 refine(HC.out _ hb1).mono ?_
 rintro e w2 ⟨rfl,hb2⟩
 have hB2:=aV hb1 hb2
 go_wp2_with fail
 refine(HM.out _ hB2).mono ?_
 rintro e w3 ⟨rfl,hb3⟩
 have hB3:=aV hB2 hb3
 go_wp2_with fail
 refine(HD.out _ hB3).mono ?_
 rintro e w4 ⟨rfl,hb4⟩
 have hB4:=aV hB3 hb4
 go_wp2_with fail
 refine(HH.out _ hB4).mono ?_
 rintro e w5 ⟨rfl,hb5⟩
 have hB5:=aV hB4 hb5
 generalize hgt K (128 - d c) c=hc1 at *
 have d5:decide ((128:Int) < (d p:Int)+(hc1:Int))=true:=by simp;omega
 go_wp2_with fail
 go_ret2
 exact⟨rfl,hB5⟩
end Go.Proofs.YtfelmdkeaacfeaaGreatDoor.W
end
