/- Texts joined: DcP DcG OpD Sgr. -/
import Derived.Test.YtacdbnhnhdlmpaaGreatDoorFR1
import Derived.LoopTactic
import Derived.RegionTactic
set_option maxRecDepth 100000
set_option maxHeartbeats 40000000
set_option linter.unusedVariables false
set_option linter.unusedSimpArgs false
section
namespace Go.Proofs.YtacdbnhnhdlmpaaGreatDoor.W
open Go.RowKit
theorem ix_eq {S:Tr}{h:Int}{i:Nat}(hl:S.slots.length≤1000000)(k:S.ix h=some i):h=S.hd i:=by
 obtain⟨h1,h2,_⟩:=ix_some k
 unfold Tr.hd
 rw [hdl_val _ _ _ (by omega)]
 unfold idx at h1
 split at h1
 ·omega
 ·rename_i hc
  have h3:(h - bnd S.b) % bnd S.s=0:=Classical.byContradiction fun q=>hc (.inr (.inl q))
  have:=Int.mul_ediv_add_emod (h - bnd S.b) (bnd S.s)
  rw [h1,h3] at this
  omega
def sName:List UInt8:=[110,97,109,101]
def sChecked:List UInt8:=[99,104,101,99,107,101,100]
def nmV (n:Nd):List UInt8:=(attV n sName).getD []
def isR (S:Tr)(d:Nat→Nat)(ow:Int)(nm:List UInt8)(x:Nat):Bool:=match S.at x with
 | some n=>kindN n == 4 && hO S (ownI S d x) == ow && nmV n == nm
 | none=>false
def ord (K:Nat→List Nat)(d:Nat→Nat):List Nat:=wlk K (128 - d 0) 0
def grp (S:Tr)(K:Nat→List Nat)(d:Nat→Nat)(i:Nat)(n:Nd):List Nat :=
 if nmV n=[] then [i] else(ord K d).filter (isR S d (hO S (ownI S d i)) (nmV n))
structure DcOk (S:Tr) (K:Nat→List Nat) (d:Nat→Nat):Prop where
 ok:TrOk 1 S K d
 fr:S.free=[]
 len:S.slots.length≤100
 att:∀x,(S.at x).isSome=true→x≠0→∃p,x∈K p
section
variable {S : Tr} {K : Nat → List Nat} {d : Nat → Nat}
theorem DcOk.lk (D:DcOk S K d):Lk S K d:=D.ok.lk
theorem DcOk.live0 (D:DcOk S K d):(S.at 0).isSome=true:=by obtain⟨n,h,_⟩:=D.ok.doc;rw [h];rfl
theorem DcOk.d0 (D:DcOk S K d):d 0=1:=D.lk.one 0 D.live0 D.ok.nodoc
theorem DcOk.pr0 (D:DcOk S K d):pr S 0=none:=by
 obtain⟨n,h,_⟩:=D.ok.doc
 have:=(D.lk.top 0 n h D.ok.nodoc).1
 unfold pr
 rw [h,Option.bind_some,this]
 exact ix_zero S
theorem DcOk.al (D:DcOk S K d):∀i n,S.at i=some n→n.attrs.length≤1000:=fun i n hi=>by have:=(D.ok.nd i n hi).al;omega
theorem DcOk.nm (D:DcOk S K d):∀i n,S.at i=some n→n.kind≠2→n.name=[]:=fun i n hi hk=>by
 have:=D.ok.nd i n hi
 rcases this.kd with e | e | e | e
 ·exact(this.dc e).1
 ·exact absurd e hk
 ·exact(this.tx (.inl e)).1
 ·exact(this.tx (.inr e)).1
theorem DcOk.na (D:DcOk S K d):∀i n,S.at i=some n→n.kind≠2→n.attrs=[]:=fun i n hi hk=>by
 have:=D.ok.nd i n hi
 rcases this.kd with e | e | e | e
 ·exact(this.dc e).2.2
 ·exact absurd e hk
 ·exact(this.tx (.inl e)).2.1
 ·exact(this.tx (.inr e)).2.1
theorem DcOk.attL (D:DcOk S K d){i:Nat}{n:Nd}(hi:S.at i=some n)(x:List UInt8):Go.Proofs.YtacdbnhnhdlmpaaGreatDoor.W.attL n.attrs x=attV n x:=by
 unfold attV
 by_cases hk:n.kind=2
 ·rw [if_pos hk]
 ·rw [if_neg hk,D.na i n hi hk];rfl
theorem DcOk.sub0 (D:DcOk S K d):∀(m x:Nat),d x=m→(S.at x).isSome=true→subB S d 0 x=true:=by
 intro m
 induction m using Nat.strongRecOn with
 | ind m ih =>
  intro x hm hx
  by_cases h0:x=0
  ·subst h0
   unfold subB
   rw [D.d0]
   show(0 == 0 || _)=true
   simp
  ·obtain⟨q,hq⟩:=D.att x hx h0
   rw [sub_kid D.lk hq,ih (d q) (by have:=D.lk.dep q x hq;omega) q rfl (D.lk.kin q x hq).1]
   simp
theorem DcOk.mem_ord (D:DcOk S K d){x:Nat}(hx:(S.at x).isSome=true):x∈ord K d:=sub_wlk D.lk _ 0 x rfl hx D.live0 (D.sub0 _ x rfl hx)
theorem DcOk.ord_live (D:DcOk S K d){x:Nat}(hx:x∈ord K d):(S.at x).isSome=true:=(wlk_sub D.lk _ 0 x D.live0 hx).2
theorem DcOk.ord_nd (D:DcOk S K d):(ord K d).Nodup:=wlk_nodup D.lk _ 0 D.live0
theorem DcOk.ord_len (D:DcOk S K d):(ord K d).length≤100:=Nat.le_trans (wlk_len D.lk _ 0 D.live0) D.len
theorem DcOk.top (D:DcOk S K d):∀(m x:Nat),d x=m→(S.at x).isSome=true→topF S (d x) x=0:=by
 intro m
 induction m using Nat.strongRecOn with
 | ind m ih =>
  intro x hm hx
  by_cases h0:x=0
  ·subst h0
   rw [D.d0]
   simp only [topF,D.pr0]
  ·obtain⟨q,hq⟩:=D.att x hx h0
   have hd:=D.lk.dep q x hq
   rw [hd]
   simp only [topF,pr_kid D.lk hq]
   exact ih (d q) (by omega) q rfl (D.lk.kin q x hq).1
theorem DcOk.hd_inj (D:DcOk S K d){i j:Nat}(hi:(S.at i).isSome=true)(hj:(S.at j).isSome=true)(h:S.hd i=S.hd j):i=j:=by
 obtain⟨a,ha⟩:=Option.isSome_iff_exists.1 hi
 obtain⟨b,hb⟩:=Option.isSome_iff_exists.1 hj
 have h1:=hd_ix D.lk ha
 rw [h,hd_ix D.lk hb] at h1
 exact(Option.some.inj h1).symm
theorem grp_live (D:DcOk S K d){i:Nat}{n:Nd}(hi:S.at i=some n):∀x∈grp S K d i n,(S.at x).isSome=true:=by
 intro x hx
 unfold grp at hx
 split at hx
 ·rw [List.mem_singleton] at hx;rw [hx,hi];rfl
 ·exact D.ord_live (List.mem_filter.1 hx).1
theorem grp_len (D:DcOk S K d)(i:Nat)(n:Nd):(grp S K d i n).length≤100:=by
 unfold grp
 split
 ·simp
 ·exact Nat.le_trans (List.length_filter_le _ _) D.ord_len
def ndH (S:Tr)(h:Int):Option (Nat×Nd):=(S.ix h).bind fun i=>(S.at i).map fun n=>(i,n)
def gH (S:Tr)(K:Nat→List Nat)(d:Nat→Nat)(h:Int):List Int:=match ndH S h with
 | some (i,n)=>(grp S K d i n).map S.hd
 | none=>[]
def rdH (S:Tr)(h:Int):Bool:=match ndH S h with
 | some (_,n)=>kindN n == 4
 | none=>false
def atH (S:Tr)(h:Int):Bool:=match ndH S h with
 | some (_,n)=>(attV n sChecked).isSome
 | none=>false
theorem ndH_hd (D:DcOk S K d){i:Nat}{n:Nd}(hi:S.at i=some n):ndH S (S.hd i)=some (i,n):=by
 unfold ndH
 rw [hd_ix D.lk hi,Option.bind_some,hi];rfl
theorem ndH_some (D:DcOk S K d){h:Int}{i:Nat}{n:Nd}(e:ndH S h=some (i,n)):S.at i=some n∧h=S.hd i:=by
 unfold ndH at e
 obtain⟨k,h1,h2⟩:=Option.bind_eq_some_iff.1 e
 obtain⟨m,h3,h4⟩:=Option.map_eq_some_iff.1 h2
 cases h4
 exact⟨h3,ix_eq D.lk.few h1⟩
theorem gH_hd (D:DcOk S K d){i:Nat}{n:Nd}(hi:S.at i=some n):gH S K d (S.hd i)=(grp S K d i n).map S.hd:=by unfold gH;rw [ndH_hd D hi]
theorem rdH_hd (D:DcOk S K d){i:Nat}{n:Nd}(hi:S.at i=some n):rdH S (S.hd i)=(kindN n == 4):=by unfold rdH;rw [ndH_hd D hi]
theorem atH_hd (D:DcOk S K d){i:Nat}{n:Nd}(hi:S.at i=some n):atH S (S.hd i)=(attV n sChecked).isSome:=by unfold atH;rw [ndH_hd D hi]
theorem rdH_ex (D:DcOk S K d){h:Int}(e:rdH S h=true):∃i n,S.at i=some n∧h=S.hd i∧kindN n=4:=by
 unfold rdH at e
 split at e
 ·rename_i i n hq
  obtain⟨h1,h2⟩:=ndH_some D hq
  exact⟨i,n,h1,h2,by simpa using e⟩
 ·cases e
theorem isR_self {i:Nat}{n:Nd}(hi:S.at i=some n)(hk:kindN n=4):isR S d (hO S (ownI S d i)) (nmV n) i=true:=by
 unfold isR
 rw [hi]
 simp [hk]
theorem grp_self (D:DcOk S K d){i:Nat}{n:Nd}(hi:S.at i=some n)(hk:kindN n=4):i∈grp S K d i n:=by
 unfold grp
 split
 ·simp
 ·exact List.mem_filter.2 ⟨D.mem_ord (by rw [hi];rfl),isR_self hi hk⟩
theorem grp_mem (D:DcOk S K d){i x:Nat}{n:Nd}(hi:S.at i=some n)(hk:kindN n=4)(hx:x∈grp S K d i n):∃nx,S.at x=some nx∧kindN nx=4∧grp S K d x nx=grp S K d i n:=by
 by_cases hn:nmV n=[]
 ·have e:grp S K d i n=[i]:=by unfold grp;rw [if_pos hn]
  rw [e,List.mem_singleton] at hx
  subst hx
  exact⟨n,hi,hk,rfl⟩
 ·have e:grp S K d i n=(ord K d).filter (isR S d (hO S (ownI S d i)) (nmV n)):=by unfold grp;rw [if_neg hn]
  rw [e] at hx
  obtain⟨h1,h2⟩:=List.mem_filter.1 hx
  unfold isR at h2
  split at h2
  ·rename_i nx hnx
   simp only [Bool.and_eq_true,beq_iff_eq] at h2
   refine⟨nx,hnx,h2.1.1,?_⟩
   unfold grp
   rw [if_neg hn,if_neg (by rw [h2.2];exact hn),h2.2,h2.1.2]
  ·cases h2
theorem map_nd (D:DcOk S K d){l:List Nat}(h:l.Nodup)(hl:∀x∈l,(S.at x).isSome=true):(l.map S.hd).Nodup:=by
 rw [List.nodup_iff_pairwise_ne,List.pairwise_map]
 exact List.Pairwise.imp_of_mem (fun ha hb hne e=>hne (D.hd_inj (hl _ ha) (hl _ hb) e)) h
theorem grp_nd (D:DcOk S K d)(i:Nat)(n:Nd):(grp S K d i n).Nodup:=by
 unfold grp
 split
 ·simp
 ·exact D.ord_nd.filter _
theorem gr_ok (D:DcOk S K d):GrOk (gH S K d) (rdH S):=by
 refine⟨fun h hr=>?_,fun h=>?_,fun a b hr hb=>?_,fun a b hr hb=>?_⟩
 ·obtain⟨i,n,hi,rfl,hk⟩:=rdH_ex D hr
  rw [gH_hd D hi]
  exact List.mem_map_of_mem (grp_self D hi hk)
 ·cases e:ndH S h with
  | none=>unfold gH;rw [e];exact List.nodup_nil
  | some p =>
   obtain⟨i,n⟩:=p
   obtain⟨hi,rfl⟩:=ndH_some D e
   rw [gH_hd D hi]
   exact map_nd D (grp_nd D i n) (grp_live D hi)
 ·obtain⟨i,n,hi,rfl,hk⟩:=rdH_ex D hr
  rw [gH_hd D hi] at hb ⊢
  obtain⟨x,hx,rfl⟩:=List.mem_map.1 hb
  obtain⟨nx,h1,h2,h3⟩:=grp_mem D hi hk hx
  rw [gH_hd D h1,h3]
 ·obtain⟨i,n,hi,rfl,hk⟩:=rdH_ex D hr
  rw [gH_hd D hi] at hb
  obtain⟨x,hx,rfl⟩:=List.mem_map.1 hb
  obtain⟨nx,h1,h2,h3⟩:=grp_mem D hi hk hx
  rw [rdH_hd D h1,h2];rfl
end
def uX (X:List FX)(h:Int):Option Bool:=if(getX X h).touched then some (getX X h).checked else none
def toX (x:FX)(on:Bool):FX:={ x with touched:=true,checked:=on }
def touX (X:List FX)(h:Int)(on:Bool):List FX:=upX X h (toX (getX X h) on)
theorem uX_touch (X:List FX)(h:Int)(on:Bool)(x:Int):uX (touX X h on) x=if x=h then some on else uX X x:=by
 have hn:(toX (getX X h) on).node=h:=get_node X h
 unfold uX touX
 by_cases e:x=h
 ·subst e
  rw [up_get X hn,if_pos rfl];rfl
 ·rw [get_other X hn e,if_neg e]
def touL (X:List FX):List Int→List FX
 | []=>X
 | a :: l=>touL (touX X a false) l
theorem uX_touL (X:List FX)(l:List Int)(x:Int):uX (touL X l) x=if x∈l then some false else uX X x:=by
 induction l generalizing X with
 | nil=>simp [touL]
 | cons a l ih =>
  unfold touL
  rw [ih,uX_touch]
  by_cases e:x∈l
  ·simp [e]
  ·by_cases e2:x=a <;> simp [e,e2]
theorem touX_len (X:List FX)(h:Int)(on:Bool):(touX X h on).length≤X.length+1:=(up_len X h _).2.1
theorem touL_len (X:List FX)(l:List Int):(touL X l).length≤X.length+l.length:=by
 induction l generalizing X with
 | nil=>simp [touL]
 | cons a l ih =>
  unfold touL
  have:=ih (touX X a false)
  have:=touX_len X a false
  simp only [List.length_cons]
  omega
def setX (G:Int→List Int)(rd:Int→Bool)(X:List FX)(h:Int)(on:Bool):List FX :=
 if rd h=true∧on=true then touL (touX X h on) ((G h).filter (fun x=>x != h)) else touX X h on
theorem setX_u (G:Int→List Int)(rd:Int→Bool)(X:List FX)(h:Int)(on:Bool)(x:Int):uX (setX G rd X h on) x=setU G rd (uX X) h on x:=by
 unfold setX setU
 by_cases e:rd h=true∧on=true
 ·rw [if_pos e,uX_touL,uX_touch]
  by_cases ex:x=h
  ·subst ex;simp
  ·simp [ex,e]
 ·rw [if_neg e,uX_touch]
  by_cases ex:x=h
  ·rw [if_pos ex,if_pos ex]
  ·rw [if_neg ex,if_neg ex,if_neg (fun q=>e ⟨q.1,q.2.1⟩)]
def NoD (X:List FX):Prop:=∀x∈X,x.dirty=false
theorem NoD.get {X:List FX}(h:NoD X)(a:Int):(getX X a).dirty=false:=by
 cases e:fixX X a with
 | none=>rw [(fix_none e).2];rfl
 | some i=>exact h _ (List.mem_of_getElem? (fix_some e).2.1)
theorem NoD.touch {X:List FX}(h:NoD X)(a:Int)(on:Bool):NoD (touX X a on):=fun x hx=>by
 rcases up_mem hx with e | e
 ·rw [e];exact h.get a
 ·exact h x e
theorem NoD.touL {X:List FX}(h:NoD X)(l:List Int):NoD (Go.Proofs.YtacdbnhnhdlmpaaGreatDoor.W.touL X l):=by
 induction l generalizing X with
 | nil=>exact h
 | cons a l ih=>exact ih (h.touch a false)
theorem NoD.setX {G:Int→List Int}{rd:Int→Bool}{X:List FX}(h:NoD X)(a:Int)(on:Bool):NoD (Go.Proofs.YtacdbnhnhdlmpaaGreatDoor.W.setX G rd X a on):=by
 unfold Go.Proofs.YtacdbnhnhdlmpaaGreatDoor.W.setX
 split
 ·exact(h.touch a on).touL _
 ·exact h.touch a on
end Go.Proofs.YtacdbnhnhdlmpaaGreatDoor.W
end
section
namespace Go.Proofs.YtacdbnhnhdlmpaaGreatDoor.W
open Go.RowKit
theorem nI_live {S:Tr}{x:Nat}:(nI S x).isSome=(S.at x).isSome:=by unfold nI;rw [Option.isSome_map]
def KD (d:Nat→Nat)(p s:Nat):Nat→Nat:=fun x=>if x=s then dAdd d s p+1 else dAdd d s x
section
variable {S S1 S2 : Tr} {K : Nat → List Nat} {d : Nat → Nat} {s p : Nat} {q : Int × List UInt8 × List Atr × List UInt8}
theorem dc_grow (D:DcOk S K d)(hs:S.slots.length=s)(hl:s+1≤100)(g:GMk 1 S K d s S1 q)(i:GIn 1 S1 K (dAdd d s) p s S2):DcOk S2 (KIn K p s) (KD d p s):=by
 refine⟨i.ok,i.fr.trans g.fr,by rw [i.len,g.len];exact hl,fun x hx h0=>?_⟩
 by_cases e:x=s
 ·subst e
  exact⟨p,by rw [kin_eq];simp⟩
 ·rw [← nI_live,i.nI,g.nI,if_neg e,nI_live] at hx
  obtain⟨r,hr⟩:=D.att x hx h0
  refine⟨r,?_⟩
  unfold KIn
  split
  ·rename_i e2;subst e2;exact List.mem_append_left _ hr
  ·exact hr
theorem kd_le (hd:∀x,d x≤s+1)(hp:p≠s):∀x,KD d p s x≤s+2:=fun x=>by
 unfold KD
 rw [dadd_ne hp]
 by_cases e:x=s
 ·rw [if_pos e];have:=hd p;omega
 ·rw [if_neg e,dadd_ne e];have:=hd x;omega
end
structure PtF where
 k:Nat
 into:Nat
 nm:Nat
 fl:Nat
structure PtF.In (p:PtF):Prop where
 k:p.k≤255
 into:p.into≤255
 nm:p.nm≤255
 fl:p.fl≤255
def sHref:List UInt8:=[104,114,101,102]
def sTabi:List UInt8:=[116,97,98,105,110,100,101,120]
def sDisab:List UInt8:=[100,105,115,97,98,108,101,100]
def sText:List UInt8:=[116,101,120,116]
def sDiv:List UInt8:=[100,105,118]
def sA:List UInt8:=[97]
def sSpan:List UInt8:=[115,112,97,110]
def tnL:List (List UInt8):=[[],[],sText,[],sCheck,sRadio,sHidden,sSubmit,[],[]]
def tnS (k:Nat):List UInt8:=tnL.getD k []
def nmL:List (List UInt8):=[[],[],[114],[115]]
def hrL:List Atr:=[(sHref,[120]),(sTabi,[48]),(sTabi,[45,49])]
def atL (p:PtF)(i:Nat):List Atr :=
 (if tnS (p.k % 10)≠[] then [(sType,tnS (p.k % 10))] else []) ++
 ((if p.k % 10=8∧p.fl % 2=1 then [(sType,sButton)] else []) ++
 ((if p.k % 10=9 then [hrL.getD (p.fl % 3) ([],[])] else []) ++
 ((if p.nm % 4 > 0 then [(sName,nmL.getD (p.nm % 4) [])] else []) ++
 ((if p.fl % 2=1∧p.k % 10≠9 then [(sChecked,[])] else []) ++
 ((if p.fl / 2 % 2=1∧p.k % 10≠9 then [(sDisab,[])] else []) ++
 (if p.fl / 4 % 2=1∧p.k % 10≠9 then [(sValue,[(97+i % 26).toUInt8])] else []))))))
def elL:List (List UInt8):=[sForm,sDiv,sInput,sArea,sInput,sInput,sInput,sInput,sButton,sA]
def elP (p:PtF):List UInt8:=if p.k % 10=9∧p.fl % 3 > 0 then sSpan else elL.getD (p.k % 10) []
def nsL (k f3:Nat)(b1 b2 b4 bn:Bool):List (List UInt8):=(if tnS k≠[] then [sType] else []) ++ ((if k=8∧b1=true then [sType] else []) ++ ((if k=9 then [(hrL.getD f3 ([],[])).1] else []) ++ ((if bn=true then [sName] else []) ++ ((if b1=true∧k≠9 then [sChecked] else []) ++ ((if b2=true∧k≠9 then [sDisab] else []) ++ (if b4=true∧k≠9 then [sValue] else []))))))
def bL:List Bool:=[false,true]
theorem ns_ok0:((List.range 10).all fun k=>(List.range 3).all fun f3=>bL.all fun b1=>bL.all fun b2=>bL.all fun b4=>bL.all fun bn=>((nsL k f3 b1 b2 b4 bn).all headB && decide (nsL k f3 b1 b2 b4 bn).Nodup))=true:=by kernel_rfl
theorem ns_ok {k f3:Nat}{b1 b2 b4 bn:Bool}(hk:k < 10)(hf:f3 < 3):((nsL k f3 b1 b2 b4 bn).all headB && decide (nsL k f3 b1 b2 b4 bn).Nodup)=true:=by
 have hb:∀b:Bool,b∈bL:=fun b=>by cases b <;> simp [bL]
 have h1:=List.all_eq_true.1 ns_ok0 k (List.mem_range.2 hk)
 have h2:=List.all_eq_true.1 h1 f3 (List.mem_range.2 hf)
 have h3:=List.all_eq_true.1 h2 b1 (hb b1)
 have h4:=List.all_eq_true.1 h3 b2 (hb b2)
 have h5:=List.all_eq_true.1 h4 b4 (hb b4)
 exact List.all_eq_true.1 h5 bn (hb bn)
theorem nm_names {k f3:Nat}{b1 b2 b4 bn:Bool}(hk:k < 10)(hf:f3 < 3)(al:List Atr)(h:al.map (·.1)=nsL k f3 b1 b2 b4 bn):namesB al=true:=by
 have:=ns_ok (b1:=b1) (b2:=b2) (b4:=b4) (bn:=bn) hk hf
 rw [← h,List.all_map] at this
 exact this
theorem if_map {α β : Type}(c:Prop) [Decidable c] (a:List α)(f:α→β):(if c then a else []).map f=if c then a.map f else []:=by split <;> rfl
theorem atL_names (p:PtF)(i:Nat):namesB (atL p i)=true:=by
 refine nm_names (k:=p.k % 10) (f3:=p.fl % 3) (b1:=decide (p.fl % 2=1)) (b2:=decide (p.fl / 2 % 2=1)) (b4:=decide (p.fl / 4 % 2=1)) (bn:=decide (p.nm % 4 > 0)) (Nat.mod_lt _ (by omega)) (Nat.mod_lt _ (by omega)) _ ?_
 unfold atL nsL
 simp only [List.map_append,if_map,List.map_cons,List.map_nil,decide_eq_true_eq]
theorem elP_mem (p:PtF):elP p∈sSpan :: elL:=by
 unfold elP
 split
 ·simp
 ·refine List.mem_cons_of_mem _ ?_
  have hk:p.k % 10 < elL.length:=Nat.mod_lt _ (by decide)
  rw [List.getD_eq_getElem?_getD,List.getElem?_eq_getElem hk]
  exact List.getElem_mem hk
theorem elm_all:(sSpan :: elL).all (fun x=>elmB x && decide (x.length≤20))=true:=by kernel_rfl
theorem elP_ok (p:PtF):elmB (elP p)=true∧(elP p).length≤20:=by
 have:=List.all_eq_true.1 elm_all _ (elP_mem p)
 simpa using this
theorem atL_len (p:PtF)(i:Nat):(atL p i).length≤7:=by
 unfold atL
 simp only [List.length_append]
 have:∀(c:Prop) [Decidable c] (a:Atr),(if c then [a] else []).length≤1:=fun c _ a=>by split <;> simp
 have h1:=this (tnS (p.k % 10)≠[]) (sType,tnS (p.k % 10))
 have h2:=this (p.k % 10=8∧p.fl % 2=1) (sType,sButton)
 have h3:=this (p.k % 10=9) (hrL.getD (p.fl % 3) ([],[]))
 have h4:=this (p.nm % 4 > 0) (sName,nmL.getD (p.nm % 4) [])
 have h5:=this (p.fl % 2=1∧p.k % 10≠9) (sChecked,[])
 have h6:=this (p.fl / 2 % 2=1∧p.k % 10≠9) (sDisab,[])
 have h7:=this (p.fl / 4 % 2=1∧p.k % 10≠9) (sValue,[(97+i % 26).toUInt8])
 omega
theorem getD_len {l:List (List UInt8)}{m:Nat}(h:∀x∈l,x.length≤m)(k:Nat):(l.getD k []).length≤m:=by
 rw [List.getD_eq_getElem?_getD]
 cases e:l[k]? with
 | none=>simp
 | some x=>exact h x (List.mem_of_getElem? e)
theorem atL_ok (p:PtF)(i:Nat):∀a∈atL p i,a.1.length≤20∧a.2.length≤20:=by
 intro a ha
 have hm:∀(c:Prop) [Decidable c] (b:Atr),a∈(if c then [b] else [])→a=b:=fun c _ b h=>by
  split at h
  ·simpa using h
  ·cases h
 unfold atL at ha
 simp only [List.mem_append] at ha
 rcases ha with h | h | h | h | h | h | h
 ·have:=hm _ _ h;subst this;exact⟨by show sType.length≤20;decide,getD_len (by decide) _⟩
 ·have:=hm _ _ h;subst this;exact⟨by show sType.length≤20;decide,by show sButton.length≤20;decide⟩
 ·have:=hm _ _ h;subst this
  have h3:p.fl % 3=0∨p.fl % 3=1∨p.fl % 3=2:=by omega
  rcases h3 with e | e | e <;> rw [e] <;> exact⟨by decide,by decide⟩
 ·have:=hm _ _ h;subst this;exact⟨by show sName.length≤20;decide,getD_len (by decide) _⟩
 ·have:=hm _ _ h;subst this;exact⟨by show sChecked.length≤20;decide,by simp⟩
 ·have:=hm _ _ h;subst this;exact⟨by show sDisab.length≤20;decide,by simp⟩
 ·have:=hm _ _ h;subst this;exact⟨by show sValue.length≤20;decide,by simp⟩
end Go.Proofs.YtacdbnhnhdlmpaaGreatDoor.W
end
section
namespace Go.Proofs.YtacdbnhnhdlmpaaGreatDoor.W
open Go.ChangeShapes Go.WideShapes Go.ChangeAt Go.RowKit Go.Joins Go.Deep
def InPt (w:World)(A:Option Addr)(n:Nat)(f:Nat→PtF):Prop:=0 < n→∃b off,A=some ⟨b,off,none⟩∧b < w.heap.size∧∀j,j < n →
 w.cell? ⟨b,off+j*4,none⟩=some (.int .u8 ((f j).k:Int))∧w.cell? ⟨b,off+j*4+1,none⟩=some (.int .u8 ((f j).into:Int))∧w.cell? ⟨b,off+j*4+2,none⟩=some (.int .u8 ((f j).nm:Int))∧w.cell? ⟨b,off+j*4+3,none⟩=some (.int .u8 ((f j).fl:Int))
theorem InPt.below {w w':World}{A:Option Addr}{n:Nat}{f:Nat→PtF}(h:InPt w A n f)(hb:Below w.heap.size w w'):InPt w' A n f:=fun hn=>by
 obtain⟨b,off,e,hl,hc⟩:=h hn
 exact⟨b,off,e,Nat.lt_of_lt_of_le hl hb.size,fun j hj=>let ⟨q0,q1,q2,q3⟩:=hc j hj;⟨cell_keep hb q0,cell_keep hb q1,cell_keep hb q2,cell_keep hb q3⟩⟩
structure MkF where
 at_:Nat
 on:Bool
def InMk (w:World)(A:Option Addr)(n:Nat)(f:Nat→MkF):Prop:=0 < n→∃b off,A=some ⟨b,off,none⟩∧b < w.heap.size∧∀j,j < n →
 w.cell? ⟨b,off+j*2,none⟩=some (.int .u8 ((f j).at_:Int))∧w.cell? ⟨b,off+j*2+1,none⟩=some (.bool (f j).on)
theorem InMk.below {w w':World}{A:Option Addr}{n:Nat}{f:Nat→MkF}(h:InMk w A n f)(hb:Below w.heap.size w w'):InMk w' A n f:=fun hn=>by
 obtain⟨b,off,e,hl,hc⟩:=h hn
 exact⟨b,off,e,Nat.lt_of_lt_of_le hl hb.size,fun j hj=>let ⟨q0,q1⟩:=hc j hj;⟨cell_keep hb q0,cell_keep hb q1⟩⟩
section
variable {H : Type} {enc : TypeId × Value → H} {P : Program} {w : World}
theorem open_parts {r:Reach}{b0:Nat}{t e:TypeId}{f0 f1 f2 f3:Field}{v:Value}{d:DataW H}{ps:List MemPlace}(ht:P.underlying t=some (.slice e))(he:P.underlying e=some (.struct #[f0,f1,f2,f3]))
  (hone:oneCellFields P #[f0,f1,f2,f3]=true)(hC:P.cellsOf e=4)(e0:P.underlying f0.type=some (.int .u8))(e1:P.underlying f1.type=some (.int .u8))(e2:P.underlying f2.type=some (.int .u8))(e3:P.underlying f3.type=some (.int .u8))
  (hval:Value.okWide P w r b0 t v)(h:DataW.Trod enc P w 0 (fun _=>true) true t v d ps) :
  ∃A n c,∃f:Nat→PtF,v=.slice A n c∧n≤9223372036854775807∧InPt w A n f∧∀j,(f j).In:=by
 obtain⟨A,n,c,rfl⟩:=okWide_slice ht hval
 obtain⟨fuel,hf⟩:=h
 rcases open_slice ht hf with ⟨hcs,_⟩ | ⟨a,len,cap,m,k,D,Pl,hcs,_,hl,hmx,hm,_,hx⟩
 ·simp [Value.cells] at hcs
  obtain⟨rfl,rfl,rfl⟩:=hcs
  exact⟨none,0,0,fun _=>⟨0,0,0,0⟩,rfl,Nat.zero_le _,fun h=>absurd h (by omega),fun _=>⟨by simp,by simp,by simp,by simp⟩⟩
 ·simp [Value.cells] at hcs
  obtain⟨rfl,rfl,rfl⟩:=hcs
  simp only [if_true] at hm
  subst hm
  rw [hC] at hx
  have each:∀i,∃q:PtF,q.In ∧
    (i < n→w.cell? (a.add (i*4))=some (.int .u8 (q.k:Int))∧w.cell? (a.add (i*4+1))=some (.int .u8 (q.into:Int))∧w.cell? (a.add (i*4+2))=some (.int .u8 (q.nm:Int))∧w.cell? (a.add (i*4+3))=some (.int .u8 (q.fl:Int))):=by
   intro i
   by_cases hi:i < n
   ·obtain⟨cs,h1,h2⟩:=hx i (by omega)
    obtain⟨_,hlen,hcell⟩:=World.cells?_some h1
    obtain⟨o0,k0⟩:=hone_of hone 0 f0 rfl
    obtain⟨o1,k1⟩:=hone_of hone 1 f1 rfl
    obtain⟨o2,k2⟩:=hone_of hone 2 f2 rfl
    obtain⟨o3,k3⟩:=hone_of hone 3 f3 rfl
    obtain⟨xs,k',_,_,_,hxl,hg⟩:=DataW.trod_struct he h2
    match xs,hxl,cs,hlen with
    | [y0,y1,y2,y3],_,[v0,v1,v2,v3],_ =>
     have g0:=hg 0 f0 rfl
     have g1:=hg 1 f1 rfl
     have g2:=hg 2 f2 rfl
     have g3:=hg 3 f3 rfl
     simp [o0,o1,o2,o3,k0,k1,k2,k3] at g0 g1 g2 g3
     obtain⟨x0,z0,_,w0⟩:=DataW.trod_int e0 g0
     obtain⟨x1,z1,_,w1⟩:=DataW.trod_int e1 g1
     obtain⟨x2,z2,_,w2⟩:=DataW.trod_int e2 g2
     obtain⟨x3,z3,_,w3⟩:=DataW.trod_int e3 g3
     simp at z0 z1 z2 z3
     subst z0 z1 z2 z3
     have b0:=byte_inF w0
     have b1:=byte_inF w1
     have b2:=byte_inF w2
     have b3:=byte_inF w3
     obtain⟨x0,rfl⟩:=Int.eq_ofNat_of_zero_le b0.1
     obtain⟨x1,rfl⟩:=Int.eq_ofNat_of_zero_le b1.1
     obtain⟨x2,rfl⟩:=Int.eq_ofNat_of_zero_le b2.1
     obtain⟨x3,rfl⟩:=Int.eq_ofNat_of_zero_le b3.1
     refine⟨⟨x0,x1,x2,x3⟩,⟨by simp only [];omega,by simp only [];omega,by simp only [];omega,by simp only [];omega⟩,fun _=>⟨?_,?_,?_,?_⟩⟩
     ·have:=hcell 0 (by omega);simpa [Addr.add] using this
     ·have:=hcell 1 (by omega);rw [Go.Deep.add_add] at this;simpa using this
     ·have:=hcell 2 (by omega);rw [Go.Deep.add_add] at this;simpa using this
     ·have:=hcell 3 (by omega);rw [Go.Deep.add_add] at this;simpa using this
   ·exact⟨⟨0,0,0,0⟩,⟨by simp,by simp,by simp,by simp⟩,fun h=>absurd h hi⟩
  obtain⟨F,hF⟩:=Classical.axiomOfChoice each
  refine⟨some a,n,_,F,rfl,by unfold maxLen at hmx;omega,fun hn=>?_,fun j=>(hF j).1⟩
  have hc:=fun i hi=>(hF i).2 hi
  clear hF each
  obtain⟨b,off,el⟩:=a
  have h0:=(hc 0 hn).1
  have hel:el=none:=by simpa [Addr.add] using World.cell?_spot h0
  subst hel
  refine⟨b,off,rfl,?_,fun i hi=>?_⟩
  ·have:=World.block_lt_of_cell? _ _ h0
   rw [Go.WideShapes.add_plain] at this
   exact this
  ·obtain⟨q0,q1,q2,q3⟩:=hc i hi
   rw [Go.WideShapes.add_plain] at q0 q1 q2 q3
   exact⟨q0,q1,q2,q3⟩
theorem open_marks {r:Reach}{b0:Nat}{t e:TypeId}{f0 f1:Field}{v:Value}{d:DataW H}{ps:List MemPlace}(ht:P.underlying t=some (.slice e))(he:P.underlying e=some (.struct #[f0,f1]))
  (hone:oneCellFields P #[f0,f1]=true)(hC:P.cellsOf e=2)(e0:P.underlying f0.type=some (.int .u8))(e1:P.underlying f1.type=some .bool)
  (hval:Value.okWide P w r b0 t v)(h:DataW.Trod enc P w 0 (fun _=>true) true t v d ps) :
  ∃A n c,∃f:Nat→MkF,v=.slice A n c∧n≤9223372036854775807∧InMk w A n f∧∀j,(f j).at_≤255:=by
 obtain⟨A,n,c,rfl⟩:=okWide_slice ht hval
 obtain⟨fuel,hf⟩:=h
 rcases open_slice ht hf with ⟨hcs,_⟩ | ⟨a,len,cap,m,k,D,Pl,hcs,_,hl,hmx,hm,_,hx⟩
 ·simp [Value.cells] at hcs
  obtain⟨rfl,rfl,rfl⟩:=hcs
  exact⟨none,0,0,fun _=>⟨0,false⟩,rfl,Nat.zero_le _,fun h=>absurd h (by omega),fun _=>by simp⟩
 ·simp [Value.cells] at hcs
  obtain⟨rfl,rfl,rfl⟩:=hcs
  simp only [if_true] at hm
  subst hm
  rw [hC] at hx
  have each:∀i,∃q:MkF,q.at_≤255 ∧
    (i < n→w.cell? (a.add (i*2))=some (.int .u8 (q.at_:Int))∧w.cell? (a.add (i*2+1))=some (.bool q.on)):=by
   intro i
   by_cases hi:i < n
   ·obtain⟨cs,h1,h2⟩:=hx i (by omega)
    obtain⟨_,hlen,hcell⟩:=World.cells?_some h1
    obtain⟨o0,k0⟩:=hone_of hone 0 f0 rfl
    obtain⟨o1,k1⟩:=hone_of hone 1 f1 rfl
    obtain⟨xs,k',_,_,_,hxl,hg⟩:=DataW.trod_struct he h2
    match xs,hxl,cs,hlen with
    | [y0,y1],_,[v0,v1],_ =>
     have g0:=hg 0 f0 rfl
     have g1:=hg 1 f1 rfl
     simp [o0,o1,k0,k1] at g0 g1
     obtain⟨x0,z0,_,w0⟩:=DataW.trod_int e0 g0
     obtain⟨x1,z1,_⟩:=DataW.trod_bool e1 g1
     simp at z0 z1
     subst z0 z1
     have b0:=byte_inF w0
     obtain⟨x0,rfl⟩:=Int.eq_ofNat_of_zero_le b0.1
     refine⟨⟨x0,x1⟩,by simp only [];omega,fun _=>⟨?_,?_⟩⟩
     ·have:=hcell 0 (by omega);simpa [Addr.add] using this
     ·have:=hcell 1 (by omega);rw [Go.Deep.add_add] at this;simpa using this
   ·exact⟨⟨0,false⟩,by simp,fun h=>absurd h hi⟩
  obtain⟨F,hF⟩:=Classical.axiomOfChoice each
  refine⟨some a,n,_,F,rfl,by unfold maxLen at hmx;omega,fun hn=>?_,fun j=>(hF j).1⟩
  have hc:=fun i hi=>(hF i).2 hi
  clear hF each
  obtain⟨b,off,el⟩:=a
  have h0:=(hc 0 hn).1
  have hel:el=none:=by simpa [Addr.add] using World.cell?_spot h0
  subst hel
  refine⟨b,off,rfl,?_,fun i hi=>?_⟩
  ·have:=World.block_lt_of_cell? _ _ h0
   rw [Go.WideShapes.add_plain] at this
   exact this
  ·obtain⟨q0,q1⟩:=hc i hi
   rw [Go.WideShapes.add_plain] at q0 q1
   exact⟨q0,q1⟩
end
end Go.Proofs.YtacdbnhnhdlmpaaGreatDoor.W
end
section
namespace Go.Proofs.YtacdbnhnhdlmpaaGreatDoor.W
open Go.RowKit
def tyN (n:Nd):List UInt8:=if n.kind=2∧n.name=sInput then(attV n sType).getD [] else []
theorem tyN_radio {n:Nd}(hnm:n.kind≠2→n.name=[]):(tyN n == sRadio)=(kindN n == 4):=by
 unfold tyN kindN kindF
 by_cases h1:n.name=sInput
 ·have hk:n.kind=2:=Classical.byContradiction fun e=>by
   have:=hnm e
   rw [h1] at this;cases this
  rw [if_pos ⟨hk,h1⟩,if_pos h1]
  generalize (attV n sType).getD []=t
  unfold kindI
  by_cases e:t=sRadio
  ·subst e;rfl
  ·have e1:(t == sRadio)=false:=by simpa using e
   rw [e1,if_neg e]
   repeat' split
   all_goals first | rfl | contradiction
 ·rw [if_neg (fun e=>h1 e.2),if_neg h1]
  have e0:(([]:List UInt8) == sRadio)=false:=rfl
  rw [e0]
  repeat' split
  all_goals rfl
section
variable {B R : Nat} {S : Tr} {sv fv : Value} {w : World} {K : Nat → List Nat} {d : Nat → Nat}
theorem skindL_any (h:TAt B R S sv fv w)(hL:Lk S K d)(i:Nat)(n:Nd)(hi:S.at i=some n)(hl:n.attrs.length≤1000) :
  Calls Tryz.prog 78 #[.pointer (some ⟨R,0,none⟩),.int .i64 (S.hd i)] w fun e w'=>e=.returned (.string ⟨(tyN n).toArray⟩)∧Below w.heap.size w w':=by
 have HA:=Lib.hid (fun wx (hb:Below w.heap.size w wx)=>sattr_any (h.below hb) hL i n hi hl sType)
 obtain⟨g,cap,rfl⟩:=slots_some h (by have:=at_lt hi;omega)
 have HN:=Lib.hid (snode_some h (S.hd i) (hd_ok hL hi).1 (hd_ix hL hi) (at_slot hi))
 have hAt:=h.attrs i n (at_slot hi)
 unfold tyN attV
 obtain⟨nk,nm,nav,nal,nda,np,nf,nl,npv,nx⟩:=n
 simp only at HN HA hAt hl ⊢
 obtain⟨va,vc,rfl,_⟩:=hAt
 generalize attL nal sType=t at *
 obtain⟨kk,hkk⟩:∃kk,(if nk=2∧nm=sInput then(if nk=2 then t else none).getD [] else [])=kk:=⟨_,rfl⟩
 rw [hkk]
 have HKK:=Lib.hid hkk
 clear h hi hkk
 go_enter Tryz.func78,Tryz.ntmps78
 go_wp2_with fail
 refine HN.out.mono ?_
 rintro e w1 ⟨rfl,hb1⟩
 simp only [ndC,strV]
 have hb2:=hb1.alloc hb1.size (.cells #[.int .i64 nk,.string ⟨nm.toArray⟩,.slice va nal.length vc,.string ⟨nda.toArray⟩,.int .i64 np,.int .i64 nf,.int .i64 nl,.int .i64 npv,.int .i64 nx] 135)
 have kn:=Blk.new w1 [.int .i64 nk,.string ⟨nm.toArray⟩,.slice va nal.length vc,.string ⟨nda.toArray⟩,.int .i64 np,.int .i64 nf,.int .i64 nl,.int .i64 npv,.int .i64 nx] 135
 have c0:=kn.cell 0
 have c1:=kn.cell 1
 simp only [zzE,zzD] at c0 c1
 have HB2:=Lib.hid hb2
 clear hb1 hb2 HN kn
 by_cases hk:nk=2
 ·subst hk
  have e0:((2:Int) != 2)=false:=rfl
  by_cases h1:nm=sInput
  ·have e1:(nm == [105,110,112,117,116])=true:=beqT h1
   have e2:(nm != [105,110,112,117,116])=false:=by rw [bne,e1];rfl
   have HR:=Lib.hid (show kk=t.getD [] from by rw [← HKK.out,if_pos ⟨rfl,h1⟩,if_pos rfl])
   clear h1 HKK
   go_wp2_with fail
   refine(HA.out _ HB2.out).mono ?_
   rintro e w2 ⟨rfl,hb3⟩
   have HB:=Lib.hid (bthen HB2.out hb3)
   clear hb3
   go_wp2_with fail
   go_ret
   rw [HR.out]
   exact⟨rfl,HB.out⟩
  ·have e1:(nm == [105,110,112,117,116])=false:=beqF h1
   have e2:(nm != [105,110,112,117,116])=true:=by rw [bne,e1];rfl
   have HR:=Lib.hid (show kk=[] from by rw [← HKK.out,if_neg (fun e=>h1 e.2)])
   clear h1 HKK
   go_wp2_with fail
   go_ret
   rw [HR.out]
   exact⟨rfl,HB2.out⟩
 ·have e0:((nk:Int) != 2)=true:=by simpa using hk
  have HR:=Lib.hid (show kk=[] from by rw [← HKK.out,if_neg (fun e=>hk e.1)])
  clear hk HKK
  go_wp2_with fail
  go_ret
  rw [HR.out]
  exact⟨rfl,HB2.out⟩
theorem order_any (D:DcOk S K d)(h:TAt B R S sv fv w) :
  Calls Tryz.prog 83 #[.pointer (some ⟨R,0,none⟩)] w fun e w'=>∃v,e=.returned v∧w'.ownsRow w.heap.size 3 1 v (ord K d).length (hdC S (ord K d))∧Below w.heap.size w w':=by
 obtain⟨n0,hn0⟩:=Option.isSome_iff_exists.1 D.live0
 have HW:=Lib.hid (swalk_any (B:=B) (R:=R) (sv:=sv) (fv:=fv) D.lk (fun f i n hi=>Nat.le_trans (wlk_len D.lk f i (by rw [hi];rfl)) (by have:=D.len;omega)) D.al (128 - d 0) 0 n0 hn0 rfl w h)
 have c5:=h.blk.cell 5
 simp only [zzD,zzE] at c5
 rw [D.ok.root] at c5
 unfold ord
 generalize wlk K (128 - d 0) 0=ol at *
 generalize S.hd 0=h0 at *
 clear h hn0
 go_enter Tryz.func83,Tryz.ntmps83
 go_wp2_with fail
 refine HW.out.mono ?_
 rintro e w1 ⟨v,rfl,hv,hb1⟩
 have HV:=Lib.hid hv
 have HB:=Lib.hid hb1
 clear hv hb1
 go_wp2_with fail
 go_ret
 exact⟨v,rfl,HV.out,HB.out⟩
theorem filter_snoc {α : Type}(p:α→Bool)(l:List α)(x:α):(l ++ [x]).filter p=if p x=true then l.filter p ++ [x] else l.filter p:=by
 rw [List.filter_append]
 cases h:p x <;> simp [List.filter,h]
theorem sgroup_any (D:DcOk S K d)(h:TAt B R S sv fv w)(i:Nat)(n:Nd)(hi:S.at i=some n) :
  Calls Tryz.prog 36 #[.pointer (some ⟨R,0,none⟩),.int .i64 (S.hd i)] w fun e w'=>∃v,e=.returned v∧w'.ownsRow w.heap.size 3 1 v (grp S K d i n).length (hdC S (grp S K d i n))∧Below w.heap.size w w':=by
 have HSa:=Lib.hid (fun(x:Nat) (nx:Nd) (hx:S.at x=some nx) (wx:World) (hb:Below w.heap.size w wx)=>sattr_any (h.below hb) D.lk x nx hx (D.al x nx hx) sName)
 have HKi:=Lib.hid (fun(x:Nat) (nx:Nd) (hx:S.at x=some nx) (wx:World) (hb:Below w.heap.size w wx)=>skindL_any (h.below hb) D.lk x nx hx (D.al x nx hx))
 have HOw:=Lib.hid (fun(x:Nat) (nx:Nd) (hx:S.at x=some nx) (wx:World) (hb:Below w.heap.size w wx)=>sowner_any (h.below hb) D.lk D.al D.nm x nx hx)
 have HOr:=Lib.hid (fun(wx:World) (hb:Below w.heap.size w wx)=>order_any D (h.below hb))
 have HS1:=Lib.hid (HSa.out i n hi w (Below.refl _ _))
 rw [D.attL hi] at HS1
 have HOi:=Lib.hid (HOw.out i n hi)
 have hlv:∀x∈ord K d,∃nx,S.at x=some nx:=fun x hx=>Option.isSome_iff_exists.1 (D.ord_live hx)
 have hol:=D.ord_len
 have HIs:=Lib.hid (fun(x:Nat) (nx:Nd) (hx:S.at x=some nx) (ow:Int) (nm:List UInt8)=>(show isR S d ow nm x=(kindN nx == 4 && hO S (ownI S d x) == ow && nmV nx == nm) from by unfold isR;rw [hx]))
 have HTy:=Lib.hid (fun(x:Nat) (nx:Nd) (hx:S.at x=some nx)=>(show(tyN nx == sRadio)=(kindN nx == 4)∧(attL nx.attrs sName).getD []=nmV nx from⟨tyN_radio (D.nm x nx hx),by rw [D.attL hx];rfl⟩))
 unfold grp
 have hnm0:nmV n=(attV n sName).getD []:=rfl
 rw [← hnm0] at HS1
 generalize nmV n=nm at *
 generalize hO S (ownI S d i)=ow at *
 have hW:=(Below.refl w.heap.size w)
 clear hnm0 h hi hW
 by_cases hn:nm=[]
 ·subst hn
  rw [if_pos rfl]
  clear HSa HKi HOw HOr HIs HTy hlv
  go_enter Tryz.func36,Tryz.ntmps36
  go_wp2_with fail
  refine HS1.out.mono ?_
  rintro e w1 ⟨rfl,hb1⟩
  have HB1:=Lib.hid hb1
  clear hb1
  go_wp2_with fail
  go_ret
  exact⟨_,rfl,own_base' (own_at (n:=1) (size:=1) (Blk.new w1 [.int .i64 (S.hd i)] 3) rfl (by omega)) (fun k hk=>by cases hk;exact HB1.out.size),HB1.out.alloc HB1.out.size _⟩
 ·rw [if_neg hn]
  have e0:(nm == [])=false:=beqF hn
  generalize ord K d=ol at *
  clear hn
  go_enter Tryz.func36,Tryz.ntmps36
  go_wp2_with fail
  refine HS1.out.mono ?_
  rintro e w1 ⟨rfl,hb1⟩
  have HR:=Lib.hid (HOr.out _ hb1)
  have HB1:=Lib.hid hb1
  clear hb1 HOr HS1
  go_wp2_with fail
  refine HR.out.mono ?_
  rintro e w2 ⟨v,rfl,hv,hb2⟩
  obtain⟨va,vc,rfl⟩:=own_shapeB hv
  have HV:=Lib.hid hv
  have HB2:=Lib.hid (bthen HB1.out hb2)
  clear hv hb2 HR
  go_wp2_with fail
  go_loopw [7,26] (fun ov iv wr=>∃(t:Nat),t≤ol.length∧iv=.int .i64 (t:Int)∧wr.ownsRow w2.heap.size 3 1 ov ((ol.take t).filter (isR S d ow nm)).length (hdC S ((ol.take t).filter (isR S d ow nm)))∧Below w2.heap.size w2 wr) (fun _ iv _=>ol.length - (intOf iv).toNat)
  case atStart=>exact⟨0,by omega,rfl,World.ownsRow_nil _ _ _ _,Below.refl _ _⟩
  case round =>
   obtain⟨t,ht,rfl,hown,hb⟩:=hrel
   obtain⟨oa,oc,rfl⟩:=own_shapeB hown
   have HO:=Lib.hid hown
   have HBr:=Lib.hid hb
   clear hown hb
   by_cases htl:t < ol.length
   ·obtain⟨k,hk⟩:∃k,ol[t]? = some k:=⟨_,List.getElem?_eq_getElem htl⟩
    obtain⟨nk,hnk⟩:=hlv k (List.mem_of_getElem? hk)
    obtain⟨vg,rfl,_,hvc,ck⟩:=hdC_get (own_keepB HV.out HBr.out) hk
    have hbw:=bthen HB2.out HBr.out
    have HA1:=Lib.hid (HSa.out k nk hnk _ hbw)
    obtain⟨hty,hnme⟩:=HTy.out k nk hnk
    rw [hnme] at HA1
    have HK1:=Lib.hid (fun wx (hb:Below wr.heap.size wr wx)=>HKi.out k nk hnk wx (bthen hbw hb))
    have HO1:=Lib.hid (fun wx (hb:Below wr.heap.size wr wx)=>HOw.out k nk hnk wx (bthen hbw hb))
    have HO2:=Lib.hid (fun wx (hb:Below wr.heap.size wr wx)=>HOi.out wx (bthen hbw hb))
    have hisr:=HIs.out k nk hnk ow nm
    have hfs:=filter_snoc (isR S d ow nm) (ol.take t) k
    rw [show ol.take t ++ [k]=ol.take (t+1) by rw [List.take_add_one,hk];rfl,hisr] at hfs
    have hfl:((ol.take t).filter (isR S d ow nm)).length≤100:=by
     have:=List.length_filter_le (isR S d ow nm) (ol.take t)
     rw [List.length_take] at this
     omega
    have HFs:=Lib.hid hfs
    generalize (ol.take t).filter (isR S d ow nm)=fl at *
    generalize nmV nk=nmk at *
    generalize hO S (ownI S d k)=owk at *
    generalize tyN nk=ty at *
    generalize kindN nk=kd at *
    clear hbw hk hnk hisr hnme hfs
    go_wp2_with fail
    refine HA1.out.mono ?_
    rintro e w4 ⟨rfl,hb4⟩
    have ck4:=cell_keep hb4 ck
    have HK4:=Lib.hid (HK1.out _ hb4)
    have Hb4:=Lib.hid hb4
    clear hb4 HA1 HK1 ck
    go_wp2_with fail
    refine HK4.out.mono ?_
    rintro e w5 ⟨rfl,hb5⟩
    have hbr5:=bthen Hb4.out hb5
    have ck5:=cell_keep hb5 ck4
    have HBr5:=Lib.hid hbr5
    have HO5a:=Lib.hid (HO1.out _ hbr5)
    clear hb5 HK4 Hb4 ck4 hbr5
    by_cases h4:kd=4
    ·have e4:(ty == [114,97,100,105,111])=true:=hty.trans (by simp [h4])
     by_cases h5:nmk=nm
     ·have e5:(nmk == nm)=true:=beqT h5
      go_wp2_with fail
      refine HO5a.out.mono ?_
      rintro e w6 ⟨rfl,hb6⟩
      have hbr6:=bthen HBr5.out hb6
      have HO6:=Lib.hid (HO2.out _ hbr6)
      have ck6:=cell_keep hb6 ck5
      have HBr6:=Lib.hid hbr6
      clear hb6 hbr6 ck5
      go_wp2_with fail
      refine HO6.out.mono ?_
      rintro e w7 ⟨rfl,hb7⟩
      have hbr7:=bthen HBr6.out hb7
      have ck7:=cell_keep hb7 ck6
      have HO7:=Lib.hid (own_keepB HO.out hbr7)
      have HBr7:=Lib.hid (bthen HBr.out hbr7)
      clear hb7 hbr7 ck6 HO6 HO5a HO1 HO2
      by_cases h6:owk=ow
      ·have e6:(owk == ow)=true:=by simpa using h6
       have HS:=Lib.hid (show(ol.take (t+1)).filter (isR S d ow nm)=fl ++ [k] from by rw [HFs.out,h4,e6,e5];rfl)
       clear h4 h5 h6 HFs hty
       have HWx:=Lib.hid (own_at (n:=1) (size:=1) (Blk.new w7 [.int .i64 (S.hd k)] 3) rfl (by omega))
       have HO8:=Lib.hid (own_keepB HO7.out ((Below.refl w7.heap.size w7).alloc (Nat.le_refl _) (.cells #[.int .i64 (S.hd k)] 3)))
       have hB8:=bthen HBr7.out ((Below.refl w7.heap.size w7).alloc (Nat.le_refl _) (.cells #[.int .i64 (S.hd k)] 3))
       have HB8:=Lib.hid hB8
       have hsz:=hB8.size
       have hlt4:=fun g (hg:(Value.slice oa fl.length oc).ownBlock=some g)=>(HO8.out.lt g hg).1
       clear hB8
       go_wp2_with (at_builtin;refine wpList_append_B etI HO8.out hsz HWx.out (by intro u hu;simp at hu;subst hu;rfl) (by omega) (by omega) rfl _ _ rfl rfl rfl ?_)
       intro v' w9 ho9 hg9 _
       have HO9:=Lib.hid ho9
       have HB9:=Lib.hid (HB8.out.grown hg9 hsz (fun k hk=>hlt4 k hk))
       clear ho9 hg9 hlt4
       go_wp2_with fail
       go_roundw
       case rel =>
        refine⟨t+1,by omega,by go_num,?_,HB9.out⟩
        rw [HS.out,List.length_append,← hdC_app]
        exact HO9.out
       case measure=>simp [intOf];omega
      ·have e6:(owk == ow)=false:=by simpa using h6
       have HS:=Lib.hid (show(ol.take (t+1)).filter (isR S d ow nm)=fl from by rw [HFs.out,e6];simp)
       clear h4 h5 h6 HFs hty
       go_wp2_with fail
       go_roundw
       case rel =>
        refine⟨t+1,by omega,by go_num,?_,HBr7.out⟩
        rw [HS.out]
        exact HO7.out
       case measure=>simp [intOf];omega
     ·have e5:(nmk == nm)=false:=beqF h5
      have HO7:=Lib.hid (own_keepB HO.out HBr5.out)
      have HBr7:=Lib.hid (bthen HBr.out HBr5.out)
      have HS:=Lib.hid (show(ol.take (t+1)).filter (isR S d ow nm)=fl from by rw [HFs.out,e5];simp)
      clear h4 h5 HFs hty HO5a HO1 HO2
      go_wp2_with fail
      go_roundw
      case rel =>
       refine⟨t+1,by omega,by go_num,?_,HBr7.out⟩
       rw [HS.out]
       exact HO7.out
      case measure=>simp [intOf];omega
    ·have e4:(ty == [114,97,100,105,111])=false:=hty.trans (by simpa using h4)
     have e4k:(kd == 4)=false:=by simpa using h4
     have HO7:=Lib.hid (own_keepB HO.out HBr5.out)
     have HBr7:=Lib.hid (bthen HBr.out HBr5.out)
     have HS:=Lib.hid (show(ol.take (t+1)).filter (isR S d ow nm)=fl from by rw [HFs.out,e4k];simp)
     clear h4 HFs hty HO5a HO1 HO2 e4k
     go_wp2_with fail
     go_roundw
     case rel =>
      refine⟨t+1,by omega,by go_num,?_,HBr7.out⟩
      rw [HS.out]
      exact HO7.out
     case measure=>simp [intOf];omega
   ·obtain rfl:t=ol.length:=by omega
    rw [List.take_length] at HO ⊢
    go_wp2_with fail
    go_ret
    exact⟨_,rfl,own_low HO.out HB2.out.size,bthen HB2.out HBr.out⟩
end
end Go.Proofs.YtacdbnhnhdlmpaaGreatDoor.W
end
