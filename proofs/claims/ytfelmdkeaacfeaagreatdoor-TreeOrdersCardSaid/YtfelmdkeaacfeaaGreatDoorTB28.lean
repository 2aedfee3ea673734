/- Texts joined: TwX Hdl TwO SamR. -/
import Derived.Test.YtfelmdkeaacfeaaGreatDoorTB1
import Derived.Test.YtfelmdkeaacfeaaGreatDoorTB27
import Derived.Test.YtfelmdkeaacfeaaGreatDoorTB19
import Derived.Test.YtfelmdkeaacfeaaGreatDoorTB22
import Derived.Test.YtfelmdkeaacfeaaGreatDoorTB23
import Derived.Test.YtfelmdkeaacfeaaGreatDoorTB15
import Derived.Test.YtfelmdkeaacfeaaGreatDoorTB5
set_option maxRecDepth 100000
set_option maxHeartbeats 40000000
set_option linter.unusedVariables false
set_option linter.unusedSimpArgs false
section
namespace Go.Proofs.YtfelmdkeaacfeaaGreatDoor.W
open Go.RowKit
theorem TQ {ex:Prop}{E:Nat→Prop}{c:Nat}{S:Tr}{K:Nat→List Nat}{d:Nat→Nat}{M M':List MN}{σ : Nat→Nat}(W:Tw ex E c S K M σ)(T:iP c S K d){x:Nat}{mx:MN}{n:Nd}(hx:lv M x=some mx)(hn:S.at (σ x)=some n){rs:List Rc}{en:Int}(hm:JW M x mx M' rs en) :
  (en=10∧M'=M∧rs=[]∧n.kind=1)∨(en=0∧M'=M∧rs=[]∧n.kind≠1∧∀q,σ x∉K q) ∨
  (en=0∧n.kind≠1∧∃(q i:Nat),(K q)[i]? = some (σ x)∧[recC 2 (S.hd q) (S.hd (σ x)) n.prev n.next (i:Int) [] [] false 0 0]=rs.map (fun r=>encR (vC S σ r)) ∧
   ∀S',yI S S' (K q) q i (σ x)→iP c S' (mP K q i) (zQ S d (σ x))∧Tw ex E c S' (mP K q i) M' σ):=by
 have hnk:x≠0→n.kind≠1:=fun h0=>T.other _ n hn (fun e=>by
  obtain⟨m0,hm0⟩:=W.zero.2
  exact h0 (W.inj x 0 mx m0 hx hm0 (by rw [e,W.zero.1])))
 cases hm with
 | doc h =>
  subst h
  rw [W.zero.1] at hn
  obtain⟨n0,h1,h2⟩:=T.doc
  rw [hn] at h1;cases h1
  exact .inl ⟨rfl,rfl,rfl,h2⟩
 | top h0 h=>exact .inr (.inl ⟨rfl,rfl,rfl,hnk h0,W.top x mx hx h⟩)
 | cut q i mq h0 h1 h2 h3 =>
  have hk:=W.kids q mq h2
  have hj:(K (σ q))[i]? = some (σ x):=by rw [hk,bI,h3];rfl
  obtain⟨_,hp,hnx⟩:=T.lk.kid (σ q) i (σ x) n hj hn
  refine .inr (.inr ⟨rfl,hnk h0,σ q,i,hj,?_,fun S' hc=>⟨T.cut hj hc,W.cut T.lk h2 hx h1 h3 hc⟩⟩)
  have e1:n.prev=hO S ((pv mq.kids i).map σ):=by
   rw [hp,← KN,← hk];rfl
  have e2:n.next=hO S ((mq.kids[i+1]?).map σ):=by
   rw [hnx,hk,bI]
  rw [e1,e2]
  simp only [fE,jZ,vC,Ub,encR,Qq,A8]
def hnd (Hs:List Int)(i:Int):Int:=if i < 0 then 0 else Hs.getD i.toNat 0
theorem ry {w:World}{g:Nat}{a b hv:Value}{Hs:List Int}(h:dD w g [a,b,hv] 33)(ho:Own w 3 1 hv Hs.length (hC Hs))(hl:Hs.length≤100000)(i:Int)(h1:-100000≤i)(h2:i≤100000) :
  Calls Tryz.prog 42 #[.pointer (some ⟨g,0,none⟩),.int .i64 i] w fun e w'=>e=.returned (.int .i64 (hnd Hs i))∧w'=w:=by
 have c2:=h.cell 2
 have cf:=h.free
 have hlt:=h.lt
 simp only [fQ,fP] at c2
 obtain⟨va,vc,rfl⟩:=aW ho
 unfold hnd
 by_cases hi:i < 0
 ·have hd:decide (i < 0)=true:=by simp;exact hi
  rw [aC hi]
  clear h ho
  go_enter Tryz.func42,Tryz.ntmps42
  go_wp2_with fail
  go_ret
  exact⟨rfl,rfl⟩
 ·obtain⟨j,rfl⟩:∃j:Nat,i=(j:Int):=⟨i.toNat,by omega⟩
  have hd:decide ((j:Int) < 0)=false:=by simp
  rw [ax hi,Int.toNat_natCast]
  by_cases hj:j < Hs.length
  ·have hd2:decide ((Hs.length:Int)≤(j:Int))=false:=by simp;omega
   obtain⟨gv,cp,hv,hc⟩:=pO (show w.ownsRow 0 3 1 (.slice va Hs.length vc) Hs.length (hC Hs) from iD ho (aZ _)) (x:=Hs.getD j 0) (j:=j) (by rw [dV,ay hj];rfl)
   cases hv
   have hcg:=iG w ⟨gv,j,none⟩ hc
   have hji:(j:Int) < (Hs.length:Int):=by omega
   generalize Hs.getD j 0=x at *
   clear h ho
   go_enter Tryz.func42,Tryz.ntmps42
   go_wp2_with fail
   go_ret
   exact⟨rfl,rfl⟩
  ·have hd2:decide ((Hs.length:Int)≤(j:Int))=true:=by simp;omega
   rw [dV,bQ (by omega)]
   clear h ho
   go_enter Tryz.func42,Tryz.ntmps42
   go_wp2_with fail
   go_ret
   exact⟨rfl,rfl⟩
def iZ (S:Tr)(σ : Nat→Nat)(M:List MN):List Int:=(List.range M.length).map fun i=>if(lv M i).isSome then S.hd (σ i) else -1
theorem jJ (S:Tr)(σ : Nat→Nat)(M:List MN):(iZ S σ M).length=M.length:=by unfold iZ;simp
theorem uz {S:Tr}{σ : Nat→Nat}{M:List MN}{i:Nat}(h:i < M.length):(iZ S σ M)[i]? = some (if(lv M i).isSome then S.hd (σ i) else -1):=by
 unfold iZ;rw [bI,List.getElem?_range h];rfl
theorem A7 {S:Tr}{σ : Nat→Nat}{M:List MN}{i:Nat}{m:MN}(h:lv M i=some m):(iZ S σ M)[i]? = some (S.hd (σ i)):=by
 rw [uz (kH ⟨m,h⟩),h];rfl
theorem F9 {S:Tr}{σ : Nat→Nat}{M:List MN}{i:Nat}(hi:i < M.length)(h:lv M i=none):(iZ S σ M)[i]? = some (-1):=by
 rw [uz hi,h];rfl
def kK (g R Q:Nat)(hv:Value)(Hs:List Int)(S:Tr)(sv fv nv:Value)(X:List MX):List Ob :=
 [bk g [.pointer (some ⟨R,0,none⟩),.pointer (some ⟨Q,0,none⟩),hv] 33,sl 3 1 hv Hs.length (hC Hs),Bg R S sv fv,ui Q nv X]
structure CX (ex:Prop) (E:Nat→Prop) (c x:Nat) (S:Tr) (K:Nat→List Nat) (d:Nat→Nat) (M:List MN) (σ : Nat→Nat):Prop where
 ok:iP c S K d
 tw:Tw ex E c S K M σ
 cl:∀p k,k∈K p→(E p↔E k)
 lim:S.slots.length≤M.length+x
theorem iP.Ju {c:Nat}{S:Tr}{K:Nat→List Nat}{d:Nat→Nat}(T:iP c S K d):S.free.length≤S.slots.length :=
 qM S.slots.length S.free T.rZ (fun i hi=>(ai.1 (T.fr i hi)).1)
section
variable {B : Nat} {w0 w w' : World} {l : List Ob} {g R Q : Nat} {hv sv fv nv : Value} {Hs : List Int} {S : Tr} {X : List MX}
theorem bF (h:All B w0 (kK g R Q hv Hs S sv fv nv X ++ l) w):dD w g [.pointer (some ⟨R,0,none⟩),.pointer (some ⟨Q,0,none⟩),hv] 33:=h.P (bk g _ _) (by simp [kK])
theorem lL (h:All B w0 (kK g R Q hv Hs S sv fv nv X ++ l) w):Own w 3 1 hv Hs.length (hC Hs):=h.P (sl 3 1 hv Hs.length (hC Hs)) (by simp [kK])
theorem jF (h:All B w0 (kK g R Q hv Hs S sv fv nv X ++ l) w):fZ 0 R S sv fv w:=h.P (Bg R S sv fv) (by simp [kK])
theorem lG (h:All B w0 (kK g R Q hv Hs S sv fv nv X ++ l) w):jC Q nv X w:=h.P (ui Q nv X) (by simp [kK])
theorem All.TR {o o' x:Ob}(l1:List Ob){l2:List Ob}(h:All B w0 (l1 ++ o :: l2) w)(hp:o'.P w')(hx:x.P w')(hc:dU o.F w w')(hk:∀k,o'.F k→o.F k∨w.heap.size≤k)(hn:∀k,x.F k→w.heap.size≤k)(hap:∀k,x.F k→¬o'.F k):All B w0 (x :: (l1 ++ o' :: l2)) w':=by
 have h1:=h.step l1 (l2:=l2) hp hc hk
 refine⟨?_,?_,?_,h1.below,h1.le⟩
 ·intro y hy
  rcases bn.1 hy with rfl | hy
  ·exact hx
  ·exact h1.P y hy
 ·rw [lS]
  refine⟨fun y hy k h2 h3=>?_,h1.apart⟩
  have key:∀z∈l1 ++ o :: l2,z.F k→False:=fun z hz h4=>by
   have:=hn k h2
   have:=z.here w (h.P z hz) k h4
   omega
  rcases cZ.1 hy with hy | hy
  ·exact key y (qj _ hy) h3
  ·rcases bn.1 hy with rfl | hy
   ·exact hap k h2 h3
   ·exact key y (uV _ (gX _ hy)) h3
 ·intro y hy k h2
  rcases bn.1 hy with rfl | hy
  ·exact aQ h.le (hn k h2)
  ·exact h1.base y hy k h2
structure qh (R:Nat) (S:Tr) (sv fv:Value) (w:World) (S':Tr) (sv' fv':Value) (w':World):Prop where
 at_:fZ 0 R S' sv' fv' w'
 qU:dU (yR R S sv fv) w w'
 new:∀k,yR R S' sv' fv' k→yR R S sv fv k∨w.heap.size≤k
theorem qh.refl (h:fZ 0 R S sv fv w)(hb:Below w.heap.size w w'):qh R S sv fv w S sv fv w':=⟨h.below hb,dU.of_below hb,fun k hk=>.inl hk⟩
theorem qh.all {S':Tr}{sv' fv':Value}(k:qh R S sv fv w S' sv' fv' w')(h:All B w0 (kK g R Q hv Hs S sv fv nv X ++ l) w):All B w0 (kK g R Q hv Hs S' sv' fv' nv X ++ l) w' :=
 h.step [bk g [.pointer (some ⟨R,0,none⟩),.pointer (some ⟨Q,0,none⟩),hv] 33,sl 3 1 hv Hs.length (hC Hs)] (o:=Bg R S sv fv) (o':=Bg R S' sv' fv') (l2:=ui Q nv X :: l) k.at_ k.qU k.new
theorem qh.I7 {S':Tr}{sv' fv' v:Value}{rs:List Rc}(k:qh R S sv fv w S' sv' fv' w')(hr:w'.ownsRow w.heap.size 41 11 v rs.length (rows encR rs))(h:All B w0 (kK g R Q hv Hs S sv fv nv X ++ l) w):All B w0 (rl v rs :: (kK g R Q hv Hs S' sv' fv' nv X ++ l)) w' :=
 h.TR [bk g [.pointer (some ⟨R,0,none⟩),.pointer (some ⟨Q,0,none⟩),hv] 33,sl 3 1 hv Hs.length (hC Hs)] (o:=Bg R S sv fv) (o':=Bg R S' sv' fv') (x:=rl v rs) (l2:=ui Q nv X :: l) k.at_ (iD hr (aZ _)) k.qU k.new (fun q hq=>(hr.lt q hq).1) (fun q hq hq'=>by
  obtain⟨cur,hcur⟩:=gJ hr hq
  obtain⟨cur',t,hc',ht⟩:=J7 k.at_ hq'
  rw [hcur] at hc'
  cases hc'
  exact ht rfl)
theorem sG.row {v:Value}{rs:List Rc}{b:Nat}(h:sG w b v (rs.map encR)):w.ownsRow b 41 11 v rs.length (rows encR rs):=by
 have:=h
 unfold sG at this
 rwa [NS,bM] at this
theorem fU.tw {o:Ob}{nv':Value}{X':List MX}(k:fU Q nv X w nv' X' w')(h:All B w0 (o :: (kK g R Q hv Hs S sv fv nv X ++ l)) w):All B w0 (o :: (kK g R Q hv Hs S sv fv nv' X' ++ l)) w' :=
 h.step [o,bk g [.pointer (some ⟨R,0,none⟩),.pointer (some ⟨Q,0,none⟩),hv] 33,sl 3 1 hv Hs.length (hC Hs),Bg R S sv fv] (o:=ui Q nv X) (o':=ui Q nv' X') (l2:=l) k.at_ k.qU k.new
theorem fU.VV {nv':Value}{X':List MX}(k:fU Q nv X w nv' X' w')(h:All B w0 (kK g R Q hv Hs S sv fv nv X ++ l) w):All B w0 (kK g R Q hv Hs S sv fv nv' X' ++ l) w' :=
 h.step [bk g [.pointer (some ⟨R,0,none⟩),.pointer (some ⟨Q,0,none⟩),hv] 33,sl 3 1 hv Hs.length (hC Hs),Bg R S sv fv] (o:=ui Q nv X) (o':=ui Q nv' X') (l2:=l) k.at_ k.qU k.new
end
theorem Jp (S:Tr){h:Int}(hh:h≤0):S.ix h=none:=by
 unfold Tr.ix
 have:idx S.b S.s h=-1:=Ed (Or.inl (by have:=qW S.b;omega))
 rw [this,ax (by omega)]
theorem zI {ex E c x}{S:Tr}{K d M σ}(T:CX ex E c x S K d M σ){i:Nat}(hi:i < M.length):∃h,(iZ S σ M)[i]? = some h∧uY h∧((∃m n,lv M i=some m∧S.at (σ i)=some n∧h=S.hd (σ i))∨(lv M i=none∧h=-1∧S.ix h=none)):=by
 cases e:lv M i with
 | some m =>
  obtain⟨n,hn,_⟩:=T.tw.node i m e
  exact⟨_,A7 e,(hd_ok T.ok.lk hn).1,.inl ⟨m,n,rfl,hn,rfl⟩⟩
 | none =>
  refine⟨-1,F9 hi e,⟨by omega,by omega⟩,.inr ⟨rfl,rfl,?_⟩⟩
  exact Jp S (by omega)
theorem mW {P:Program}{id:Nat}{Q':Exit→Act→World→Prop}{a:Act}{w:World}{ls:List Oper}(F:List Value→World→Prop)(V:List Value→Value→Prop)(m:Nat)
  (hm:P.follows .mixedOrders=true)(hB:xh .any ls.toArray m (ls.length - m)=true)(hF:∀k w1 w2,F k w1→Below w1.heap.size w1 w2→F k w2)(h0:F [] w)
  (h:RV.qi P ls.toArray ⟨jc w,fun k X w'=>jc w w'∧F k w',V,fun _ _=>undef,fun _=>[],fun _=>0⟩ (fun k X a'=>∀w',jc w w'→F k w'→wpList P ls.toArray Q' (ls.drop m) a' w') 0 [] [] (ls.take m) a):(Code.region id ls.toArray true).wp P Q' a w :=
 RV.sH ⟨jc w,fun k X w'=>jc w w'∧F k w',V,fun _ _=>undef,fun _=>[],fun _=>0⟩ m hm hB (fun k X w h=>h.1) (fun k X w' cs ty h=>⟨aV h.1 ((ak _ _).alloc (au _) _),hF k _ _ h.2 ((ak _ _).alloc (au _) _)⟩) (fun k X Y w hp h=>h) ⟨(ak _ _).drew,hF [] _ _ h0 ((ak _ _).drew)⟩ (by
  refine cast ?_ h
  congr 1
  funext k X a'
  exact propext ⟨fun g w' hw=>g w' hw.1 hw.2,fun g w' h1 h2=>g w' ⟨h1,h2⟩⟩)
end Go.Proofs.YtfelmdkeaacfeaaGreatDoor.W
end
