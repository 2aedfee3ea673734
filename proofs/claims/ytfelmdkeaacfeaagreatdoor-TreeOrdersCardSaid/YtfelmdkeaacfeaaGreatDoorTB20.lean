/- Texts joined: Clear Del DropA SetB. -/
import Derived.Test.YtfelmdkeaacfeaaGreatDoorTB1
import Derived.Test.YtfelmdkeaacfeaaGreatDoorTB13
import Derived.Laws.IdiomCopy
import Derived.Test.YtfelmdkeaacfeaaGreatDoorTB10
import Derived.Deep.RegionLaw
import Derived.Shelf.RegionOpenPlain
import Derived.Test.YtfelmdkeaacfeaaGreatDoorTB11
import Derived.Test.YtfelmdkeaacfeaaGreatDoorTB15
set_option maxRecDepth 100000
set_option maxHeartbeats 40000000
set_option linter.unusedVariables false
set_option linter.unusedSimpArgs false
section
namespace Go.Proofs.YtfelmdkeaacfeaaGreatDoor.W
open Go.RowKit
theorem All.Kw {B:Nat}{w0:World}(l1:List Ob){l2:List Ob}{g n cap size:Nat}{e:TypeId}:∀(vs:List Value) (o:Nat) {w:World} {xs:List Value},All B w0 (l1 ++ sl e size (.slice (some ⟨g,0,none⟩) n cap) n xs :: l2) w →
  All B w0 (l1 ++ sl e size (.slice (some ⟨g,0,none⟩) n cap) n (kZ xs o vs) :: l2) (w.setCells g o vs)
 | [],_,_,_,h=>h
 | v :: vs,o,_,_,h=>All.Kw l1 vs (o+1) (h.UZ l1 o v)
theorem Kz:∀(vs xs:List Value) (o:Nat),(kZ xs o vs).length=xs.length
 | [],_,_=>rfl
 | v :: vs,xs,o=>by simp only [kZ];rw [Kz];simp
theorem Bl:∀(vs xs:List Value) (o:Nat),(kZ xs o vs).take o=xs.take o
 | [],_,_=>rfl
 | v :: vs,xs,o=>by
  simp only [kZ]
  have h:=Bl vs (xs.set o v) (o+1)
  have h2:∀(a b:List Value),a.take (o+1)=b.take (o+1)→a.take o=b.take o:=fun a b h=>by
   have:=bW (List.take o) h
   simpa [WS] using this
  rw [h2 _ _ h,Yl (au _)]
theorem EF {P:Program}{t e ty:TypeId}{size:Nat}(ht:P.underlying t=some (.slice e)){z:Value}(hv:∀w,(zeroValue e).run P w=.ok z w)(hz:z.cells.size=size)(hpos:0 < size)(h1:∀u∈z.cells.toList,u.oneCell'=true)
  {B:Nat}{w0 w:World}(l1:List Ob){l2:List Ob}{g n cap i:Nat}{xs:List Value}(h:All B w0 (l1 ++ sl e size (.slice (some ⟨g,0,none⟩) n cap) n xs :: l2) w)(hi:i < n)(c:Nat) :
  ∃w' zs,(Builtin.clear_ #[t] ty #[.slice (some ⟨g,i*size,none⟩) (n - i) c]).run P w=.ok (.tuple #[]) w'∧zs.length=(n - i)*size∧All B w0 (l1 ++ sl e size (.slice (some ⟨g,0,none⟩) n cap) n (kZ xs (i*size) zs) :: l2) w':=by
 have hown:Own w e size (.slice (some ⟨g,0,none⟩) n cap) n xs:=h.mid
 have hlen:xs.length=n*size:=hown.1
 have hzl:(Builtin.zeroCells z.cells (n - i)).toList.length=(n - i)*size:=by simp [Builtin.zeroCells,hz]
 have hmul:(n - i)*size+i*size=n*size:=by rw [← Nat.add_mul];congr 1;omega
 have hst:=run_storeCells_cells (P:=P) g (i*size) (Builtin.zeroCells z.cells (n - i)).toList 0 w
  (fun j hj=>by
   rw [hown.cellAt (i*size+0+j) (by rw [hzl] at hj;omega),ay (by rw [hzl] at hj;omega)]
   rfl)
  (fun j hj=>hown.frozenAt _)
  (fun u hu=>by
   rw [Builtin.zeroCells,hz] at hu
   simp only [Array.toList_map,Array.toList_range,bC,iw] at hu
   obtain⟨k,hk,rfl⟩:=hu
   have hk':k % size < z.cells.size:=by rw [hz];exact jr _ hpos
   rw [XJ z.cells _ hk']
   exact h1 _ (by simp))
 rw [Nat.add_zero] at hst
 refine⟨_,(Builtin.zeroCells z.cells (n - i)).toList,?_,hzl,All.Kw l1 _ _ h⟩
 obtain⟨m,hm⟩:∃m,n - i=m+1:=⟨n - i - 1,by omega⟩
 rw [hm] at hst ⊢
 simp [Builtin.clear_,run_underlying ht,hv,hst]
theorem Ag {P:Program}{t e:TypeId}{size:Nat}(ht:P.underlying t=some (.slice e)){z:Value}(hv:∀w,(zeroValue e).run P w=.ok z w)(hz:z.cells.size=size)(hpos:0 < size)(h1:∀u∈z.cells.toList,u.oneCell'=true)
  {B:Nat}{w0 w:World}(l1:List Ob){l2:List Ob}{g n cap i:Nat}{xs:List Value}(h:All B w0 (l1 ++ sl e size (.slice (some ⟨g,0,none⟩) n cap) n xs :: l2) w)(hi:i < n)
  {ops:Array Oper}{rest:List Oper}{o:Oper}{a:Act}{Q:Exit→Act→World→Prop}(hgd:o.guard=none)(s:Operand)(ho:o.op=.call { callee:=.builtin .clear,args:=#[s],argTypes:=#[t] }){c:Nat}(hd:a.eval s=.slice (some ⟨g,i*size,none⟩) (n - i) c)
  (hc:∀w' zs,All B w0 (l1 ++ sl e size (.slice (some ⟨g,0,none⟩) n cap) n (kZ xs (i*size) zs) :: l2) w'→wpList P ops Q rest (a.put o.dst (.tuple #[])) w'):wpList P ops Q (o :: rest) a w :=
 wpList_plain hgd fun K hK=>by
  obtain⟨w',zs,hr,_,h2⟩:=EF (P:=P) (ty:=o.type) ht hv hz hpos h1 l1 h hi c
  unfold Oper.wp execOp
  simp only [ho,resolve,invoke,builtin,WU,Sem.run_pure,Result.andThen_ok,vk,fE,jZ,hd,hr]
  exact hK _ _ (hc w' zs h2)
theorem NZ {w:World}{e:TypeId}{size g n cap i:Nat}{xs:List Value}(h:Own w e size (.slice (some ⟨g,0,none⟩) n cap) n xs)(hi:i≤n):Own w e size (.slice (some ⟨g,0,none⟩) i cap) i (xs.take (i*size)):=by
 obtain⟨h1,h2⟩:=h
 have hmul:i*size≤n*size:=Xh _ hi
 refine⟨by rw [fC,h1];exact rQ hmul,?_⟩
 rcases h2 with ⟨h',_⟩ | ⟨g',cap',cur,h',hb,hg,hc,hm,hs,ht⟩
 ·simp at h'
 ·simp only [bD,mY,yK,jX,je] at h'
  obtain⟨rfl,rfl⟩:=h'
  refine .inr ⟨g,cap,cur,rfl,hb,hg,by omega,hm,hs,?_⟩
  rw [← ht,WS,rQ hmul]
theorem All.trunc {B:Nat}{w0 w:World}(l1:List Ob){l2:List Ob}{g n cap size i:Nat}{e:TypeId}{xs:List Value}(h:All B w0 (l1 ++ sl e size (.slice (some ⟨g,0,none⟩) n cap) n xs :: l2) w)(hi:i≤n) :
  All B w0 (l1 ++ sl e size (.slice (some ⟨g,0,none⟩) i cap) i (xs.take (i*size)) :: l2) w :=
 h.step l1 (o':=sl e size (.slice (some ⟨g,0,none⟩) i cap) i (xs.take (i*size))) (NZ h.mid hi) (dU.refl _ _) (fun k hk=>.inl hk)
theorem FC:∀(vs xs:List Value) (o:Nat),o+vs.length≤xs.length→kZ xs o vs=xs.take o ++ vs ++ xs.drop (o+vs.length)
 | [],xs,o,_=>by simp [kZ]
 | v :: vs,xs,o,h=>by
  rw [List.length_cons] at h
  show kZ (xs.set o v) (o+1) vs=_
  rw [FC vs (xs.set o v) (o+1) (by rw [dI];omega)]
  rw [fJ,iR (by omega),Yl (au _),List.drop_set_of_lt (by omega),List.length_cons,show o+1+vs.length=o+(vs.length+1) by omega]
  simp
theorem yD (l:List jR)(i:Nat):(cu l).take (2*i)=cu (l.take i):=by
 induction l generalizing i with
 | nil=>simp [cu]
 | cons x l ih =>
  cases i with
  | zero=>simp [cu]
  | succ i =>
   have:=ih i
   show(OX x ++ cu l).take (2*(i+1))=OX x ++ cu (l.take i)
   rw [← this,show 2*(i+1)=(OX x).length+2*i by show _=2+_;omega,List.take_length_add_append]
theorem Et (l:List jR)(i:Nat):(cu l).drop (2*i)=cu (l.drop i):=by
 induction l generalizing i with
 | nil=>simp [cu]
 | cons x l ih =>
  cases i with
  | zero=>simp
  | succ i =>
   have:=ih i
   show(OX x ++ cu l).drop (2*(i+1))=cu (l.drop i)
   rw [← this,show 2*(i+1)=(OX x).length+2*i by show _=2+_;omega,List.drop_length_add_append]
theorem Gt (a b:List jR):cu (a ++ b)=cu a ++ cu b:=by unfold cu;simp
theorem SN {B:Nat}{w0 w:World}{l:List Ob}{e:TypeId}{size g cap n:Nat}{xs:List Value}(h:All B w0 (sl e size (.slice (some ⟨g,0,none⟩) n cap) n xs :: l) w):w.ownsRow B e size (.slice (some ⟨g,0,none⟩) n cap) n xs:=by
 have hO:Own _ _ _ _ _ _:=h.head
 obtain⟨h1,h2⟩:=hO
 refine⟨h1,?_⟩
 have hb:=h.base _ (List.Mem.head _) g rfl
 rcases h2 with ⟨e,_⟩ | ⟨g',cap',cur,e,_,rest⟩
 ·cases e
 ·cases e;exact .inr ⟨g,_,cur,rfl,hb,rest⟩
theorem O3:∀w,(zeroValue 91).run Tryz.prog w=.ok (.agg #[.string ⟨#[]⟩,.string ⟨#[]⟩]) w:=fun w=>by
 first | exact Tryz.zeroValue91 w | (simp [Tryz.zeroValue91])
theorem Q7:(Value.agg #[.string ⟨#[]⟩,.string ⟨#[]⟩]).cells.size=2:=rfl
theorem TM:∀u∈(Value.agg #[.string ⟨#[]⟩,.string ⟨#[]⟩]).cells.toList,u.oneCell'=true:=by intro u hu;simp [Value.cells] at hu;subst hu;rfl
theorem JD {B:Nat}{w0 w:World}{g cap:Nat}{l:List jR}{rest:List Ob}(h:All B w0 (sl 91 2 (.slice (some ⟨g,0,none⟩) l.length cap) l.length (cu l) :: rest) w)(i:Nat)(hi:i < l.length)(hl:l.length≤1000) :
  Calls Tryz.prog 60 #[.slice (some ⟨g,0,none⟩) l.length cap,.int .i64 (i:Int),.int .i64 ((i:Int)+1)] w fun e w'=>e=.returned (.slice (some ⟨g,0,none⟩) (l.length - 1) cap) ∧
   All B w0 (sl 91 2 (.slice (some ⟨g,0,none⟩) (l.length - 1) cap) (l.length - 1) (cu (l.eraseIdx i)) :: rest) w':=by
 obtain⟨i0,hi0,hz0,hz1,hz2⟩:=WY Qi
 have hO:Own _ _ _ _ _ _:=h.head
 have hA:=lJ l
 have hcap:l.length≤cap∧cap≤maxLen:=by
  rcases hO.2 with ⟨e,_⟩ | ⟨g',cap',cur,e,_,_,hc,hm,_⟩
  ·cases e
  ·cases e;exact⟨hc,hm⟩
 have hcm:cap≤9223372036854775807:=by have:=hcap.2;unfold maxLen at this;omega
 have hcl:=hcap.1
 obtain⟨news,hnews⟩:∃news,news=(cu l).drop (2*(i+1)):=⟨_,rfl⟩
 have hlen:news.length=2*(l.length - (i+1)):=by rw [hnews,aS,hA];omega
 have hdr:=h.drew
 have hOd:Own w.drew _ _ _ _ _:=hdr.head
 obtain⟨A,hA1,hsrc⟩:∃A:Addr,(if cap=i+1 then some (⟨g,0,none⟩:Addr) else some ⟨g,(i+1)*2,none⟩)=some A∧Hid (∀t u,news[t]? = some u→w.drew.cell? (A.add t)=some u):=by
  by_cases hc:cap=i+1
  ·refine⟨⟨g,0,none⟩,by simp [hc],ae fun t u hu=>?_⟩
   have h0:news.length=0:=by rw [hlen];omega
   rw [nO.1 h0] at hu
   simp at hu
  ·refine⟨⟨g,(i+1)*2,none⟩,by simp [hc],ae fun t u hu=>?_⟩
   rw [hnews,oM] at hu
   have:=iM hOd _ u hu
   rw [aP] at this ⊢
   rw [show(i+1)*2+t=0+(2*(i+1)+t) by omega]
   exact this
 have s1:=ae (show news.length=(l.length - (i+1))*2 by rw [hlen];omega)
 have s2:=ae (show ∀u∈news,u.oneCell'=true from fun u hu=>sU l u (by rw [hnews] at hu;exact kF hu))
 have s3:=ae (show ∀t,t < news.length→(w.drew.cell? ⟨g,0+i*2+t,none⟩).isSome=true∧w.drew.frozen? ⟨g,0+i*2+t,none⟩=false from fun t ht=>by
  refine⟨?_,hOd.frozenAt _⟩
  have:=hOd.cellAt (0+i*2+t) (by rw [hlen] at ht;omega)
  rw [this,ay (by rw [hA];rw [hlen] at ht;omega)]
  rfl)
 have hA2:=hdr.Kw [] news (0+i*2)
 have HA2:=ae hA2
 clear hA2 h hO hOd hdr hA
 go_enter Tryz.func60,Tryz.ntmps60
 go_wp2_with fail
 have mixed:Tryz.prog.follows .mixedOrders=true:=by kernel_rfl
 have hic:i≤cap:=by omega
 have hjc:i+1≤cap:=by omega
 have hbb:0≤(i:Int)+1∧(i:Int)+1≤(l.length:Int):=by omega
 have Hnews:=ae hnews
 have Hlen:=ae hlen
 clear hnews hlen
 go_region_law_o (refine step_append_room rfl (.tmp 22) (.tmp 25) 60 rfl 91 i0 2 Tryz.underlying60 hi0 hz1 g 0 i cap (by simp [Act.eval,Act.put]) A (l.length - (i+1)) (cap - (i+1)) news (by simp [Act.eval,Act.put,hA1]) s1.out hsrc.out s2.out (by omega) s3.out ?_)
 rw [show i+(l.length - (i+1))=l.length - 1 by omega]
 simp only [List.nil_append,aJ] at HA2
 clear hsrc s1 s2 s3 hA1 mixed
 generalize w.drew.setCells g (i*2) news=w2 at *
 have hcne:¬cap=l.length - 1:=by omega
 have hcl1:l.length - 1≤cap:=by omega
 have hcl2:l.length - 1≤l.length:=by omega
 have hbi:0≤((l.length - 1:Nat):Int)∧((l.length - 1:Nat):Int)≤(l.length:Int):=by omega
 have hij':l.length - 1 < l.length:=by omega
 go_wp2_with (((with_reducible refine Ag (i:=l.length - 1) (c:=cap - (l.length - 1)) Tryz.underlying60 O3 Q7 (by omega) TM [] HA2.out hij' rfl (.tmp 31) rfl ?_ ?_);(rfl);(intro w3 zs hA3);(have HA3:=ae hA3);(clear hA3)))
 go_ret
 refine⟨rfl,?_⟩
 have h4:=All.trunc [] HA3.out (show l.length - 1≤l.length by omega)
 rw [Bl,FC _ _ _ (by rw [lJ,Hlen.out];omega),Hnews.out] at h4
 have e:(((cu l).take (i*2) ++ (cu l).drop (2*(i+1)) ++ (cu l).drop (i*2+((cu l).drop (2*(i+1))).length)).take ((l.length - 1)*2))=cu (l.eraseIdx i):=by
  rw [show i*2=2*i by omega,yD,Et,XO (by rw [aA,lJ,lJ,fC,aS];omega),← Gt,show(l.length - 1)*2=2*(l.length - 1) by omega,yD,jU,sZ (by rw [aA,fC,aS];omega)]
 rw [e] at h4
 exact h4
theorem LX {B e size n:Nat}{w:World}{v:Value}{xs:List Value}(h:w.ownsRow B e size v n xs)(hB:B≤w.heap.size):All B w [sl e size v n xs] w :=
 ⟨by intro o ho;simp at ho;subst ho;exact iD h (aZ _),by simp,by intro o ho k hk;simp at ho;subst ho;exact(h.lt k hk).1,ak _ _,hB⟩
theorem Ky {B R g cap:Nat}{S:Tr}{fv:Value}{w:World}{K d}(h:fZ B R S (.slice (some ⟨g,0,none⟩) S.slots.length cap) fv w)(hL:Lk S K d)(i:Nat)(n:Nd)(hi:S.at i=some n)(hk:n.kind≠2)(a b:Value) :
  Calls Tryz.prog 18 #[.pointer (some ⟨R,0,none⟩),.int .i64 (S.hd i),a,b] w fun e w'=>e=.returned (.tuple #[.slice none 0 0,.int .i64 10])∧Below w.heap.size w w':=by
 have HE:=ae (Eh h hL i n hi hk)
 clear h hL hi
 go_enter Tryz.func18,Tryz.ntmps18
 go_wp2_with fail
 refine HE.out.mono ?_
 rintro e w1 ⟨rfl,hb1⟩
 go_wp2_with fail
 go_ret2
 exact⟨rfl,hb1⟩
theorem JC {B R g cap:Nat}{S:Tr}{fv:Value}{w:World}{K d}(h:fZ B R S (.slice (some ⟨g,0,none⟩) S.slots.length cap) fv w)(hL:Lk S K d)(i:Nat)(n:Nd)(hi:S.at i=some n)(hk:n.kind≠2)(a:Value) :
  Calls Tryz.prog 17 #[.pointer (some ⟨R,0,none⟩),.int .i64 (S.hd i),a] w fun e w'=>e=.returned (.tuple #[.slice none 0 0,.int .i64 10])∧Below w.heap.size w w':=by
 have HE:=ae (Eh h hL i n hi hk)
 clear h hL hi
 go_enter Tryz.func17,Tryz.ntmps17
 go_wp2_with fail
 refine HE.out.mono ?_
 rintro e w1 ⟨rfl,hb1⟩
 go_wp2_with fail
 go_ret2
 exact⟨rfl,hb1⟩
inductive Cc (W:Nat) (S:Tr) (i:Nat) (n:Nd) (name val:List UInt8):Tr→Value→Int→List (List Value)→Prop
 | kind (h:n.kind≠2):Cc W S i n name val S (.slice none 0 0) 10 []
 | arg (hk:n.kind=2) (h:headB name=false):Cc W S i n name val S (.slice none 0 0) 1 []
 | full (hk:n.kind=2) (h:headB name=true) (h1:mJ n.attrs name=-1) (h2:64≤n.attrs.length):Cc W S i n name val S (.slice none 0 0) 5 []
 | add (v av:Value) (hk:n.kind=2) (h:headB name=true) (h1:mJ n.attrs name=-1) (h2:n.attrs.length < 64) (hfr:∀k,av.ownBlock=some k→W≤k) :
   Cc W S i n name val (S.put i { n with av:=av,attrs:=n.attrs ++ [(name,fix val)] }) v 0 [recC 3 (S.hd i) 0 0 0 0 name [] false 0 0]
 | set (v av:Value) (k:Nat) (y:jR) (hk:n.kind=2) (h:headB name=true) (h1:mJ n.attrs name=(k:Int)) (h2:n.attrs[k]? = some y) (hfr:∀k,av.ownBlock=some k→W≤k) :
   Cc W S i n name val (S.put i { n with av:=av,attrs:=n.attrs.set k (y.1,fix val) }) v 0 [recC 3 (S.hd i) 0 0 0 0 name y.2 true 0 0]
theorem NR {B R g cap:Nat}{S:Tr}{fv:Value}{w:World}{K d}(h:fZ B R S (.slice (some ⟨g,0,none⟩) S.slots.length cap) fv w)(hL:Lk S K d)(i:Nat)(n:Nd)(hi:S.at i=some n)(hk:n.kind=2)(hl:n.attrs.length≤64)
  (name val:List UInt8)(hnl:name.length≤1000)(hv:val.length≤1000)(hT:Laid w) :
  Calls Tryz.prog 18 #[.pointer (some ⟨R,0,none⟩),.int .i64 (S.hd i),dA name,dA val] w fun e w'=>∃S' v er l,Cc w.heap.size S i n name val S' v er l∧e=.returned (.tuple #[v,.int .i64 er]) ∧
   sG w' w.heap.size v l∧fZ B R S' (.slice (some ⟨g,0,none⟩) S'.slots.length cap) fv w'∧dU (fun k=>k=g) w w':=by
 have HE:=ae (Ei h hL i n hi hk)
 have HN:=ae (fun wx (hb:Below w.heap.size w wx)=>yC name (by omega) wx (hT.below hb))
 have HR:=ae (fun wx (hb:Below w.heap.size w wx)=>nT val wx (by omega) (hT.below hb))
 have HM:=ae (fun wx (hb:Below w.heap.size w wx)=>FQ (h.below hb) i n hi name (by omega))
 have HTx:=ae h
 have hnm:=hnl
 have hfl:=mO val
 have Hi:=ae hi
 clear hT h
 unfold dA at *
 have hval:∃v,v=fix val:=⟨_,rfl⟩
 obtain⟨val',hval⟩:=hval
 rw [← hval] at hfl HR
 have HVal:=ae hval
 clear hval
 have hsz:(⟨val'.toArray⟩:ByteArray).size=val'.length:=by show val'.toArray.size=_;simp
 have HLg:=ae (fun wx=>lW ⟨val'.toArray⟩ (by rw [hsz];omega) wx)
 rw [hsz,eP (by omega)] at HLg
 have H2:=ae (fun wx (hb:Below w.heap.size w wx)=>bK (HTx.out.below hb) Hi.out 2 (by omega))
 simp only [jd,fQ,fP] at H2
 obtain⟨va,vc,hva,_⟩:=HTx.out.attrs i n (dN hi)
 rw [hva] at H2
 clear hi hL
 go_enter Tryz.func18,Tryz.ntmps18
 go_wp2_with fail
 refine HE.out.mono ?_
 rintro e w1 ⟨rfl,hb1⟩
 go_wp2_with fail
 refine(HN.out _ hb1).mono ?_
 rintro e w2 ⟨rfl,hb2⟩
 have hB2:=aV hb1 hb2
 have HHb:=ae (show headB name=headB name from rfl)
 cases hhb:headB name
 ·have HTz:=HTx.out.below hB2
  go_wp2_with fail
  go_ret2
  exact⟨S,_,1,[],.arg hk hhb,rfl,aG _ _ _ _,HTz,dU.of_below hB2⟩
 have HHx:=ae hhb
 clear hhb
 go_wp2_with fail
 refine(HR.out _ hB2).mono ?_
 rintro e w3 ⟨rfl,hb3⟩
 have hB3:=aV hB2 hb3
 go_wp2_with fail
 refine(HM.out _ hB3).mono ?_
 rintro e w4 ⟨rfl,hb4⟩
 have hB4:=aV hB3 hb4
 have c2:=H2.out _ hB4
 go_wp2_with fail
 refine(HLg.out _).mono ?_
 rintro e w5 ⟨rfl,hw⟩
 rw [hw]
 clear hw
 have hcases:=ug n.attrs name
 have hnr:∃r,r=mJ n.attrs name:=⟨_,rfl⟩
 obtain⟨r,hnr⟩:=hnr
 rw [← hnr] at hcases ⊢
 have HNr:=ae hnr
 clear HE HN HR HM HLg hb1 hb2 hb3 hb4 hB2 hB3 hnr
 rcases hcases with rfl | ⟨k,y,rfl,hy⟩
 ·by_cases hfull:n.attrs.length=64
  ·have d1:decide ((64:Int)≤(n.attrs.length:Int))=true:=by simp;omega
   go_wp2_with fail
   go_ret2
   exact⟨S,_,5,[],(.full hk HHx.out HNr.out.symm (by omega)),rfl,aG _ _ _ _,HTx.out.below hB4,dU.of_below hB4⟩
  ·have d1:decide ((64:Int)≤(n.attrs.length:Int))=false:=by simp;omega
   go_upto_region 11 with fail
   have k6:dD (w4.alloc (.cells #[.int .i64 3,.int .i64 (S.hd i),.int .i64 0,.int .i64 0,.int .i64 0,.int .i64 0,.string ⟨name.toArray⟩,.string ⟨#[]⟩,.bool false,.int .i64 0,.int .i64 0] 41)) w4.heap.size [.int .i64 3,.int .i64 (S.hd i),.int .i64 0,.int .i64 0,.int .i64 0,.int .i64 0,.string ⟨name.toArray⟩,.string ⟨#[]⟩,.bool false,.int .i64 0,.int .i64 0] 41:=dD.new w4 _ _
   have hB6:Below w.heap.size w (w4.alloc (.cells #[.int .i64 3,.int .i64 (S.hd i),.int .i64 0,.int .i64 0,.int .i64 0,.int .i64 0,.string ⟨name.toArray⟩,.string ⟨#[]⟩,.bool false,.int .i64 0,.int .i64 0] 41)):=hB4.alloc hB4.size _
   have hr6:w.heap.size≤w4.heap.size:=hB4.size
   generalize hrb:w4.heap.size=rb at *
   generalize w4.alloc (.cells #[.int .i64 3,.int .i64 (S.hd i),.int .i64 0,.int .i64 0,.int .i64 0,.int .i64 0,.string ⟨name.toArray⟩,.string ⟨#[]⟩,.bool false,.int .i64 0,.int .i64 0] 41)=w6 at *
   have hT6:=HTx.out.below hB6
   have c6:=H2.out _ hB6
   have HCl:=ae (uI (hva ▸ hT6.attrs i n (dN Hi.out)) (by omega))
   have z2:=iI hT6 (i*10+1+2)
   have HT6:=ae hT6
   have HK6:=ae k6
   clear hT6 k6 c2
   go_wp2_with fail
   refine HCl.out.mono ?_
   rintro e w7 ⟨v1,rfl,hown7,hb7⟩
   have hB7:=aV hB6 hb7
   have hT7:=HTx.out.below hB7
   have c7:=H2.out _ hB7
   have z7:=iI hT7 (i*10+1+2)
   obtain⟨a1,cap1,rfl⟩:=bP hown7
   have HO7:=ae hown7
   have HT7:=ae hT7
   have HK7:=ae (HK6.out.below hb7)
   clear hT7 hown7 HCl z2 c6
   go_upto_region 12 with fail
   have hrow8:=gV HT7.out.slots (i*10+1+2) (.slice a1 n.attrs.length cap1)
   have hch8:dU (fun k=>k=g) w (w7.setCell ⟨g,i*10+1+2,none⟩ (.slice a1 n.attrs.length cap1)):=(dU.of_below (F:=fun k=>k=g) hB7).setCell ⟨g,i*10+1+2,none⟩ (fun _=>(rfl:g=g)) _
   have hidx:i*10+1+2 < (nS S.slots).length:=by rw [IZ];have:=iy Hi.out;omega
   have hc8:(w7.setCell ⟨g,i*10+1+2,none⟩ (.slice a1 n.attrs.length cap1)).cell? ⟨g,i*10+1+2,none⟩=some (.slice a1 n.attrs.length cap1):=by
    have:=hrow8.cells (g:=g) rfl (i*10+1+2) (.slice a1 n.attrs.length cap1) (iR hidx)
    rwa [aP,aJ] at this
   have hz8:(w7.setCell ⟨g,i*10+1+2,none⟩ (.slice a1 n.attrs.length cap1)).frozen? ⟨g,i*10+1+2,none⟩=false:=by
    rcases hrow8.2 with ⟨e,_⟩ | ⟨g',cap',cur,e,_,hh,_⟩
    ·cases e
    ·cases e;exact kG hh _
   have hg0:=(HTx.out.slots.lt g rfl).2
   have HK8:=ae (HK7.out.setOther ⟨g,i*10+1+2,none⟩ (by show rb≠g;omega) (.slice a1 n.attrs.length cap1))
   have hne1:∀k,(Value.slice a1 n.attrs.length cap1).ownBlock=some k→k≠g:=fun k hk e=>by have:=(HO7.out.lt k hk).1;have:=hB6.size;omega
   have HO8:=ae (gW (w':=w7.setCell ⟨g,i*10+1+2,none⟩ (.slice a1 n.attrs.length cap1)) HO7.out (fun g' hg'=>aF _ _ _ _ (hne1 g' hg')))
   have HRow8:=ae hrow8
   have HCh8:=ae hch8
   have hs8:w6.heap.size≤(w7.setCell ⟨g,i*10+1+2,none⟩ (.slice a1 n.attrs.length cap1)).heap.size:=by simp [World.setCell];exact hb7.size
   clear hrow8 hch8 HK7 HO7 HT7 c7 z7 hb7
   generalize w7.setCell ⟨g,i*10+1+2,none⟩ (.slice a1 n.attrs.length cap1)=w8 at *
   obtain⟨i0,hi0,hz0,hz1,hz2⟩:=WY Qi
   have HLc:=ae (lJ n.attrs)
   have HSn:=ae (show cu (n.attrs ++ [(name,val')])=cu n.attrs ++ [.string ⟨name.toArray⟩,.string ⟨val'.toArray⟩] from yE n.attrs (name,val'))
   generalize cu n.attrs=ys at *
   go_wp2_with (at_builtin;refine qo _ rfl _ _ 60 rfl w6.heap.size 91 i0 _ 2 32 Tryz.underlying60 hi0 hz0 hz1 hz2 rfl (by decide) _ n.attrs.length _ rfl (HO8.out.alloc _) _ 1 1 [.string ⟨name.toArray⟩,.string ⟨val'.toArray⟩] rfl rfl ?cc ?co ?c1 ?c2 ?c3 ?_)
   case cc =>
    intro j u hu
    have:=(dD.new w8 [.string ⟨name.toArray⟩,.string ⟨val'.toArray⟩] 91).cell j
    rw [aP,aJ]
    exact this.trans hu
   case co=>intro u hu;simp only [bn,iH,rP] at hu;rcases hu with rfl | rfl <;> rfl
   case c1=>unfold maxLen;omega
   case c2=>omega
   case c3=>simp;omega
   intro v2 w9 hown9 hgr9 _
   obtain⟨a2,cap2,rfl⟩:=bP hown9
   have hC9:dU (fun k=>(Value.slice a1 n.attrs.length cap1).ownBlock=some k) w8 w9:=((dU.refl _ w8).alloc _).grown hgr9 (fun k e _=>e)
   have hrow9:=gW (w':=w9) HRow8.out (fun g' hg'=>hC9.block g' (HRow8.out.lt g' hg').2 (fun e=>by cases hg';exact hne1 _ e rfl))
   have hk9:dD w9 rb _ _:=HK8.out.qU hC9 (fun e=>by have:=(HO8.out.lt rb e).1;have h1:=HK6.out.lt;omega)
   have hc9:w9.cell? ⟨g,i*10+1+2,none⟩=some (.slice a1 n.attrs.length cap1):=by
    have:=hrow9.cells (g:=g) rfl (i*10+1+2) (.slice a1 n.attrs.length cap1) (iR hidx)
    rwa [aP,aJ] at this
   have hz9:w9.frozen? ⟨g,i*10+1+2,none⟩=false:=by
    rcases hrow9.2 with ⟨e,_⟩ | ⟨g',cap',cur,e,_,hh,_⟩
    ·cases e
    ·cases e;exact kG hh _
   have hch9:dU (fun k=>k=g) w w9:=HCh8.out.trans hC9 (fun k hk e=>by have:=(HO8.out.lt k e).1;have:=hB6.size;omega)
   have HRow9:=ae hrow9
   have HCh9:=ae hch9
   have HK9:=ae hk9
   have HO9:=ae hown9
   have hs9:w6.heap.size≤w9.heap.size:=aQ hs8 hC9.size
   clear hown9 hgr9 hC9 hrow9 hk9 hch9 HRow8 HCh8 HK8 HO8 hc8 hz8 HLc
   go_upto_region 16 with fail
   have hrow10:=gV HRow9.out (i*10+1+2) (.slice a2 (n.attrs.length+1) cap2)
   rw [List.set_set] at hrow10
   have hch10:=HCh9.out.setCell ⟨g,i*10+1+2,none⟩ (fun _=>(rfl:g=g)) (.slice a2 (n.attrs.length+1) cap2)
   have hne2:∀k,(Value.slice a2 (n.attrs.length+1) cap2).ownBlock=some k→k≠g:=fun k hk e=>by have:=(HO9.out.lt k hk).1;have:=hB6.size;omega
   have hown10:=gW (w':=w9.setCell ⟨g,i*10+1+2,none⟩ (.slice a2 (n.attrs.length+1) cap2)) HO9.out (fun g' hg'=>aF _ _ _ _ (hne2 g' hg'))
   have hk10:=HK9.out.setOther ⟨g,i*10+1+2,none⟩ (by show rb≠g;omega) (.slice a2 (n.attrs.length+1) cap2)
   have hfr:∀k,(Value.slice a2 (n.attrs.length+1) cap2).ownBlock=some k→w.heap.size≤k:=fun k hk=>aQ hB6.size (HO9.out.lt k hk).1
   have hs10:w6.heap.size≤(w9.setCell ⟨g,i*10+1+2,none⟩ (.slice a2 (n.attrs.length+1) cap2)).heap.size:=by simp [World.setCell];exact hs9
   rw [← HSn.out] at hown10
   have HT10:=ae (HTx.out.PI Hi.out (.slice a2 (n.attrs.length+1) cap2) (n.attrs ++ [(name,val')]) hch10 (Jd hrow10) (lY (B:=B) (by rw [aA,List.length_singleton];exact hown10) (by have:=HTx.out.base;have:=HTx.out.blk.lt;have:=hB6.size;omega)))
   have HCh10:=ae hch10
   clear hrow10 hch10 hown10 HRow9 HCh9 HK9 HO9 hc9 hz9
   generalize w9.setCell ⟨g,i*10+1+2,none⟩ (.slice a2 (n.attrs.length+1) cap2)=w10 at *
   have b0:=hk10.cell 0
   have b1:=hk10.cell 1
   have b2:=hk10.cell 2
   have b3:=hk10.cell 3
   have b4:=hk10.cell 4
   have b5:=hk10.cell 5
   have b6:=hk10.cell 6
   have b7:=hk10.cell 7
   have b8:=hk10.cell 8
   have b9:=hk10.cell 9
   have b10:=hk10.cell 10
   simp only [fQ,fP] at b0 b1 b2 b3 b4 b5 b6 b7 b8 b9 b10
   go_wp2_with fail
   go_ret2
   refine⟨_,_,0,_,(by rw [HVal.out];exact .add _ (.slice a2 (n.attrs.length+1) cap2) hk HHx.out HNr.out.symm (by omega) hfr),rfl,?_,HT10.out.below ((ak _ w10).alloc (au _) _),HCh10.out.alloc _⟩
   exact DI w10 _ (aQ hB6.size hs10) rfl
 ·have d1:decide ((k:Int) < 0)=false:=by simp
  go_upto_region 11 with fail
  have k6:dD (w4.alloc (.cells #[.int .i64 3,.int .i64 (S.hd i),.int .i64 0,.int .i64 0,.int .i64 0,.int .i64 0,.string ⟨name.toArray⟩,.string ⟨#[]⟩,.bool false,.int .i64 0,.int .i64 0] 41)) w4.heap.size [.int .i64 3,.int .i64 (S.hd i),.int .i64 0,.int .i64 0,.int .i64 0,.int .i64 0,.string ⟨name.toArray⟩,.string ⟨#[]⟩,.bool false,.int .i64 0,.int .i64 0] 41:=dD.new w4 _ _
  have hB6:Below w.heap.size w (w4.alloc (.cells #[.int .i64 3,.int .i64 (S.hd i),.int .i64 0,.int .i64 0,.int .i64 0,.int .i64 0,.string ⟨name.toArray⟩,.string ⟨#[]⟩,.bool false,.int .i64 0,.int .i64 0] 41)):=hB4.alloc hB4.size _
  have hr6:w.heap.size≤w4.heap.size:=hB4.size
  generalize hrb:w4.heap.size=rb at *
  generalize w4.alloc (.cells #[.int .i64 3,.int .i64 (S.hd i),.int .i64 0,.int .i64 0,.int .i64 0,.int .i64 0,.string ⟨name.toArray⟩,.string ⟨#[]⟩,.bool false,.int .i64 0,.int .i64 0] 41)=w6 at *
  have hT6:=HTx.out.below hB6
  have c6:=H2.out _ hB6
  have HCl:=ae (uI (hva ▸ hT6.attrs i n (dN Hi.out)) (by omega))
  have z2:=iI hT6 (i*10+1+2)
  have HT6:=ae hT6
  have HK6:=ae k6
  clear hT6 k6 c2
  go_wp2_with fail
  refine HCl.out.mono ?_
  rintro e w7 ⟨v1,rfl,hown7,hb7⟩
  have hB7:=aV hB6 hb7
  have hT7:=HTx.out.below hB7
  have c7:=H2.out _ hB7
  have z7:=iI hT7 (i*10+1+2)
  obtain⟨a1,cap1,rfl⟩:=bP hown7
  have HO7:=ae hown7
  have HT7:=ae hT7
  have HK7:=ae (HK6.out.below hb7)
  clear hT7 hown7 HCl z2 c6
  go_upto_region 12 with fail
  have hrow8:=gV HT7.out.slots (i*10+1+2) (.slice a1 n.attrs.length cap1)
  have hch8:dU (fun k=>k=g) w (w7.setCell ⟨g,i*10+1+2,none⟩ (.slice a1 n.attrs.length cap1)):=(dU.of_below (F:=fun k=>k=g) hB7).setCell ⟨g,i*10+1+2,none⟩ (fun _=>(rfl:g=g)) _
  have hidx:i*10+1+2 < (nS S.slots).length:=by rw [IZ];have:=iy Hi.out;omega
  have hc8:(w7.setCell ⟨g,i*10+1+2,none⟩ (.slice a1 n.attrs.length cap1)).cell? ⟨g,i*10+1+2,none⟩=some (.slice a1 n.attrs.length cap1):=by
   have:=hrow8.cells (g:=g) rfl (i*10+1+2) (.slice a1 n.attrs.length cap1) (iR hidx)
   rwa [aP,aJ] at this
  have hz8:(w7.setCell ⟨g,i*10+1+2,none⟩ (.slice a1 n.attrs.length cap1)).frozen? ⟨g,i*10+1+2,none⟩=false:=by
   rcases hrow8.2 with ⟨e,_⟩ | ⟨g',cap',cur,e,_,hh,_⟩
   ·cases e
   ·cases e;exact kG hh _
  have hg0:=(HTx.out.slots.lt g rfl).2
  have HK8:=ae (HK7.out.setOther ⟨g,i*10+1+2,none⟩ (by show rb≠g;omega) (.slice a1 n.attrs.length cap1))
  have hne1:∀k,(Value.slice a1 n.attrs.length cap1).ownBlock=some k→k≠g:=fun k hk e=>by have:=(HO7.out.lt k hk).1;have:=hB6.size;omega
  have HO8:=ae (gW (w':=w7.setCell ⟨g,i*10+1+2,none⟩ (.slice a1 n.attrs.length cap1)) HO7.out (fun g' hg'=>aF _ _ _ _ (hne1 g' hg')))
  have HRow8:=ae hrow8
  have HCh8:=ae hch8
  have hs8:w6.heap.size≤(w7.setCell ⟨g,i*10+1+2,none⟩ (.slice a1 n.attrs.length cap1)).heap.size:=by simp [World.setCell];exact hb7.size
  clear hrow8 hch8 HK7 HO7 HT7 c7 z7 hb7
  generalize w7.setCell ⟨g,i*10+1+2,none⟩ (.slice a1 n.attrs.length cap1)=w8 at *
  have hkl:=(ai.1 hy).1
  obtain⟨ga,hga⟩:∃ga,a1=some ⟨ga,0,none⟩:=by
   rcases HO8.out.2 with ⟨e,_⟩ | ⟨ga,cap',cur,e,_⟩
   ·simp only [bD] at e;omega
   ·simp only [bD] at e;exact⟨ga,e.1⟩
  subst hga
  have hga6:=(HO8.out.lt ga rfl).1
  have hga8:=(HO8.out.lt ga rfl).2
  have hrb6:=HK6.out.lt
  have hyc:=(kz n.attrs k y hy).2
  have hat:=lJ n.attrs
  have q1:w8.cell? ⟨ga,k*2+1,none⟩=some (dA y.2):=by
   have:=HO8.out.cells (g:=ga) rfl (2*k+1) _ hyc
   rw [aP,aJ] at this
   rw [show k*2+1=2*k+1 by omega]
   exact this
  have p7:=HK8.out.cell 7
  have p8:=HK8.out.cell 8
  simp only [fQ,fP] at p7 p8
  have zf:=HK8.out.free
  unfold dA at q1
  go_upto_region 15 with fail
  have hk9:=(HK8.out.set 7 (.string ⟨y.2.toArray⟩)).set 8 (.bool true)
  simp only [List.set_cons_succ,List.set_cons_zero] at hk9
  have hgrb:g≠rb:=by omega
  have hgarb:ga≠rb:=by omega
  have oth:∀k',k'≠rb→((w8.setCell ⟨rb,7,none⟩ (.string ⟨y.2.toArray⟩)).setCell ⟨rb,8,none⟩ (.bool true)).heap[k']? = w8.heap[k']?:=fun k' hk'=>(aF _ _ _ _ hk').trans (aF _ _ _ _ hk')
  have hrow9:=gW HRow8.out (fun g' hg'=>oth g' (by cases hg';exact hgrb))
  have hown9:=gW HO8.out (fun g' hg'=>oth g' (by cases hg';exact hgarb))
  have hch9:=(HCh8.out.setCell ⟨rb,7,none⟩ (fun hk=>by have:rb < w.heap.size:=hk;omega) (.string ⟨y.2.toArray⟩)).setCell ⟨rb,8,none⟩ (fun hk=>by have:rb < w.heap.size:=hk;omega) (.bool true)
  have hs9:w6.heap.size≤((w8.setCell ⟨rb,7,none⟩ (.string ⟨y.2.toArray⟩)).setCell ⟨rb,8,none⟩ (.bool true)).heap.size:=by simp [World.setCell];exact hs8
  clear hc8 hz8 HRow8 HO8 HCh8 HK8 p7 p8 zf q1 oth
  generalize (w8.setCell ⟨rb,7,none⟩ (.string ⟨y.2.toArray⟩)).setCell ⟨rb,8,none⟩ (.bool true)=w9 at *
  have hc9:w9.cell? ⟨g,i*10+1+2,none⟩=some (.slice (some ⟨ga,0,none⟩) n.attrs.length cap1):=by
   have:=hrow9.cells (g:=g) rfl (i*10+1+2) (.slice (some ⟨ga,0,none⟩) n.attrs.length cap1) (iR hidx)
   rwa [aP,aJ] at this
  have q9:w9.cell? ⟨ga,k*2+1,none⟩=some (dA y.2):=by
   have:=hown9.cells (g:=ga) rfl (2*k+1) _ hyc
   rw [aP,aJ] at this
   rw [show k*2+1=2*k+1 by omega]
   exact this
  have hz9:w9.frozen? ⟨ga,k*2+1,none⟩=false:=by
   rcases hown9.2 with ⟨e,_⟩ | ⟨g',cap',cur,e,_,hh,_⟩
   ·cases e
   ·cases e;exact kG hh _
  have HRow9:=ae hrow9
  have HO9:=ae hown9
  have HCh9:=ae hch9
  have HK9:=ae hk9
  clear hrow9 hown9 hch9 hk9
  unfold dA at q9
  go_upto_region 16 with fail
  have hgag:g≠ga:=by omega
  have hrow10:=gW (w':=w9.setCell ⟨ga,k*2+1,none⟩ (.string ⟨val'.toArray⟩)) HRow9.out (fun g' hg'=>aF _ _ _ _ (by cases hg';exact hgag))
  have hown10:=gV HO9.out (k*2+1) (.string ⟨val'.toArray⟩)
  have hch10:=HCh9.out.setCell ⟨ga,k*2+1,none⟩ (fun hk=>by have:ga < w.heap.size:=hk;have:=hB6.size;omega) (.string ⟨val'.toArray⟩)
  have hfr:∀k',(Value.slice (some ⟨ga,0,none⟩) n.attrs.length cap1).ownBlock=some k'→w.heap.size≤k':=fun k' hk'=>aQ hB6.size (HO9.out.lt k' hk').1
  have hk10:=HK9.out.setOther ⟨ga,k*2+1,none⟩ (by show rb≠ga;omega) (.string ⟨val'.toArray⟩)
  have hs10:w6.heap.size≤(w9.setCell ⟨ga,k*2+1,none⟩ (.string ⟨val'.toArray⟩)).heap.size:=by simp [World.setCell];exact hs9
  have e5:(cu n.attrs).set (k*2+1) (.string ⟨val'.toArray⟩)=cu (n.attrs.set k (y.1,val')):=by
   rw [show k*2+1=2*k+1 by omega];exact(Gq n.attrs k y hy val').symm
  rw [e5] at hown10
  have HT10:=ae (HTx.out.PI Hi.out (.slice (some ⟨ga,0,none⟩) n.attrs.length cap1) (n.attrs.set k (y.1,val')) hch10 (Jd hrow10) (lY (B:=B) (by rw [dI];exact hown10) (by have:=HTx.out.base;have:=HTx.out.blk.lt;have:=hB6.size;omega)))
  have HCh10:=ae hch10
  clear hrow10 hch10 hown10 HRow9 HCh9 HK9 HO9 hc9 hz9 q9
  generalize w9.setCell ⟨ga,k*2+1,none⟩ (.string ⟨val'.toArray⟩)=w10 at *
  have b0:=hk10.cell 0
  have b1:=hk10.cell 1
  have b2:=hk10.cell 2
  have b3:=hk10.cell 3
  have b4:=hk10.cell 4
  have b5:=hk10.cell 5
  have b6:=hk10.cell 6
  have b7:=hk10.cell 7
  have b8:=hk10.cell 8
  have b9:=hk10.cell 9
  have b10:=hk10.cell 10
  simp only [fQ,fP] at b0 b1 b2 b3 b4 b5 b6 b7 b8 b9 b10
  go_wp2_with fail
  go_ret2
  refine⟨_,_,0,_,(by rw [HVal.out];exact .set _ (.slice (some ⟨ga,0,none⟩) n.attrs.length cap1) k y hk HHx.out HNr.out.symm hy hfr),rfl,?_,HT10.out.below ((ak _ w10).alloc (au _) _),HCh10.out.alloc _⟩
  exact DI w10 _ (aQ hB6.size hs10) rfl
theorem IU {B R g cap:Nat}{S:Tr}{fv:Value}{w:World}{K d}(h:fZ B R S (.slice (some ⟨g,0,none⟩) S.slots.length cap) fv w)(hL:Lk S K d)(i:Nat)(n:Nd)(hi:S.at i=some n)(hl:n.attrs.length≤64)
  (name val:List UInt8)(hnl:name.length≤1000)(hv:val.length≤1000)(hT:Laid w) :
  Calls Tryz.prog 18 #[.pointer (some ⟨R,0,none⟩),.int .i64 (S.hd i),dA name,dA val] w fun e w'=>∃S' v er l,Cc w.heap.size S i n name val S' v er l∧e=.returned (.tuple #[v,.int .i64 er]) ∧
   sG w' w.heap.size v l∧fZ B R S' (.slice (some ⟨g,0,none⟩) S'.slots.length cap) fv w'∧dU (fun k=>k=g) w w':=by
 by_cases hk:n.kind=2
 ·exact NR h hL i n hi hk hl name val hnl hv hT
 ·refine(Ky h hL i n hi hk _ _).mono ?_
  rintro e w1 ⟨rfl,hb⟩
  exact⟨S,_,10,[],.kind hk,rfl,aG _ _ _ _,h.below hb,dU.of_below hb⟩
end Go.Proofs.YtfelmdkeaacfeaaGreatDoor.W
end
