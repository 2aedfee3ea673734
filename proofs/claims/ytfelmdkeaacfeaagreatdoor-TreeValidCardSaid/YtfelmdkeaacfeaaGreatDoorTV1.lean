/- Texts joined: Cnt Dp TwA Fam Whole RegI Iter ValP RegZ Nod ReF. -/
import Derived.Test.YtfelmdkeaacfeaaGreatDoorTB41
import Derived.Test.YtfelmdkeaacfeaaGreatDoorTB43
import Derived.BigQuiet
import Derived.OrdersIn
import Derived.TacticsIn
import Derived.RangeFuncNested
import Derived.RangeFuncBound
import Derived.RangeFuncCalls
import Derived.RangeFuncLeaves
import Derived.Shelf.Abstract
import Derived.Shelf.RegionOpen
import Derived.WalkKit
import Derived.OwnWalkIn
import Derived.TacticsInMore
import Derived.LoopNIn
import Derived.LoopIn
set_option maxRecDepth 100000
set_option maxHeartbeats 40000000
set_option linter.unusedVariables false
set_option linter.unusedSimpArgs false
section
namespace Go.Proofs.YtfelmdkeaacfeaaGreatDoor.W
theorem Md (K:Nat→List Nat)(f:Nat):∀l:List Nat,(l.map (wZ K (f+1))).sum=l.length+((l.flatMap K).map (wZ K f)).sum
 | []=>rfl
 | x :: l=>by
  rw [fE,List.sum_cons,Md K f l,eG,ig,List.sum_append,List.length_cons,show wZ K (f+1) x=1+((K x).map (wZ K f)).sum from rfl]
  omega
theorem IL (K:Nat→List Nat):∀l:List Nat,(l.map (wZ K 0)).sum=l.length
 | []=>rfl
 | x :: l=>by rw [fE,List.sum_cons,IL K l,List.length_cons,show wZ K 0 x=1 from rfl];omega
theorem zq {S:Tr}{d:Nat→Nat}{n i:Nat}:i∈deep S d n↔(S.at i).isSome=true∧n < d i:=by
 unfold deep
 rw [List.mem_filter,iw,aH,zY]
 constructor
 ·rintro⟨_,h⟩;exact h
 ·rintro⟨h1,h2⟩
  obtain⟨m,hm⟩:=aB.1 h1
  exact⟨iy hm,h1,h2⟩
theorem yl (S:Tr)(d:Nat→Nat)(n:Nat):(deep S d n).Nodup:=List.Pairwise.filter _ List.nodup_range
theorem D6 {l m:List Nat}(hl:l.Nodup)(hm:m.Nodup)(h:∀x,x∈l↔x∈m):l.length=m.length:=((List.perm_ext_iff_of_nodup hl hm).2 h).length_eq
theorem xG {S K d}(h:Lk S K d):∀l:List Nat,l.Nodup→(l.flatMap K).Nodup
 | [],_=>uK
 | x :: l,hl=>by
  rw [o8] at hl
  rw [eG,jf]
  refine⟨h.nodup x,xG h l hl.2,?_⟩
  rintro a ha b hb rfl
  obtain⟨y,hy,hay⟩:=bT.1 hb
  have:=h.rD ha hay
  subst this
  exact hl.1 hy
theorem yu {S K d}(h:Lk S K d):∀(f n:Nat) (l:List Nat),n+f=127→l.Nodup→(∀i,i∈l↔(S.at i).isSome=true∧d i=n+1)→(l.map (wZ K f)).sum=(deep S d n).length
 | 0,n,l,hn,hl,hm=>by
  rw [IL]
  refine D6 hl (yl _ _ _) (fun x=>?_)
  rw [hm,zq]
  have:=h.low x
  constructor
  ·rintro⟨a,b⟩;exact⟨a,by omega⟩
  ·rintro⟨a,b⟩;exact⟨a,by omega⟩
 | f+1,n,l,hn,hl,hm=>by
  have hn2:(l.flatMap K).Nodup:=xG h l hl
  have hm2:∀i,i∈l.flatMap K↔(S.at i).isSome=true∧d i=(n+1)+1:=by
   intro i
   rw [bT]
   constructor
   ·rintro⟨p,hp,hi⟩
    have:=(hm p).1 hp
    exact⟨(h.kin p i hi).2,by rw [h.qc p i hi,this.2]⟩
   ·rintro⟨h1,h2⟩
    by_cases hp:∃p,i∈K p
    ·obtain⟨p,hp⟩:=hp
     have:=h.qc p i hp
     exact⟨p,(hm p).2 ⟨(h.kin p i hp).1,by omega⟩,hp⟩
    ·have:=h.one i h1 (fun p hi=>hp ⟨p,hi⟩)
     omega
  rw [Md,yu h f (n+1) _ (by omega) hn2 hm2,← aA]
  refine D6 ?_ (yl _ _ _) (fun x=>?_)
  ·rw [jf]
   refine⟨hl,yl _ _ _,?_⟩
   rintro a ha b hb rfl
   have h1:=(hm a).1 ha
   have h2:=zq.1 hb
   omega
  ·rw [cZ,hm,zq,zq]
   constructor
   ·rintro(⟨a,b⟩ | ⟨a,b⟩) <;> exact⟨a,by omega⟩
   ·rintro⟨a,b⟩
    by_cases e:d x=n+1
    ·exact .inl ⟨a,e⟩
    ·exact .inr ⟨a,by omega⟩
theorem I8 (p:Nat→Bool)(n:Nat):((List.range (n+1)).filter p).length=(if p 0=true then 1 else 0)+((List.range n).filter fun i=>p (i+1)).length:=by
 rw [List.range_succ_eq_map,List.filter_cons,List.filter_map,Function.comp_def]
 split <;> simp <;> omega
theorem DZ (l:List (Option Nd)):(l.filter Option.isSome).length=((List.range l.length).filter fun i=>((l[i]?).join).isSome).length:=by
 induction l with
 | nil=>rfl
 | cons x l ih =>
  rw [List.length_cons,I8]
  simp only [fQ,fP]
  rw [← ih,List.filter_cons]
  cases x <;> simp <;> omega
theorem OA {S K d}(h:Lk S K d)(hpos:∀i,(S.at i).isSome=true→1≤d i)(l:List Nat)(hl:l.Nodup)(hm:∀i,i∈l↔(S.at i).isSome=true∧∀p,i∉K p):(l.map (wZ K 127)).sum=S.live:=by
 rw [yu h 127 0 l rfl hl]
 ·show((List.range S.slots.length).filter _).length=(S.slots.filter Option.isSome).length
  rw [DZ]
  congr 1
  refine List.filter_congr (fun i _=>?_)
  show((S.at i).isSome && _)=(S.at i).isSome
  cases e:(S.at i).isSome with
  | false=>rfl
  | true=>have:=hpos i e;simp;omega
 ·intro i
  rw [hm]
  constructor
  ·rintro⟨a,b⟩;exact⟨a,h.one i a b⟩
  ·rintro⟨a,b⟩
   refine⟨a,fun p hp=>?_⟩
   have h1:=h.qc p i hp
   have h2:=hpos p (h.kin p i hp).1
   omega
end Go.Proofs.YtfelmdkeaacfeaaGreatDoor.W
end
section
namespace Go.Proofs.YtfelmdkeaacfeaaGreatDoor.W
open Go
theorem OH {S K d}(h:Lk S K d){p k:Nat}(hk:k∈K p)(f:Nat):mX S k f (some p)=false :=
 Bd h (fun z=>d z≤d p) (fun x y hx hz=>by have:=h.qc y x hx;omega) (by have:=h.qc p k hk;omega) f _ (fun x hx=>by cases hx;exact au _)
end Go.Proofs.YtfelmdkeaacfeaaGreatDoor.W
end
section
namespace Go.Proofs.YtfelmdkeaacfeaaGreatDoor.W
open Go.RowKit
section
variable {ex : Prop} {E : Nat → Prop} {c : Nat} {S : Tr} {K : Nat → List Nat} {d : Nat → Nat} {M : List MN} {σ : Nat → Nat}
theorem iP.Qd (T:iP c S K d){p k:Nat}{nk:Nd}(hk:k∈K p)(hn:S.at k=some nk):nk.kind≠1 :=
 T.other k nk hn (fun e=>by subst e;exact T.vN p hk)
theorem iP.may (T:iP c S K d){p k:Nat}{np nk:Nd}(hk:k∈K p)(hp:S.at p=some np)(hn:S.at k=some nk):nU S K d p k np nk=true:=by
 have h1:=T.Qd hk hn
 have h2:=OH T.lk hk (d p)
 have e1:(nk.kind == 1)=false:=by simpa using h1
 unfold nU
 rw [e1,h2]
 rcases T.J4 p np hp with h | h | ⟨h,h3,h4⟩
 ·rw [h] at hk;cases hk
 ·simp [h]
 ·rcases h3 k nk hk hn with e | e
  ·have:(K p).any (oV S k)=false:=by
    rw [XG]
    intro x hx
    unfold oV
    by_cases exk:x=k
    ·simp [exk]
    ·cases hxn:S.at x with
     | none=>simp
     | some n =>
      by_cases e2:n.kind=2
      ·exact absurd (h4 x k n nk hx hk hxn hn e2 e) exk
      ·simp [e2]
   simp [h,e,this]
  ·simp [h,e]
end
end Go.Proofs.YtfelmdkeaacfeaaGreatDoor.W
end
section
namespace Go.Proofs.YtfelmdkeaacfeaaGreatDoor.W
open Go.RowKit
theorem MB:∀(l m:List Nat),l.Nodup→(∀x∈l,x∈m)→l.length≤m.length
 | [],m,_,_=>aZ _
 | x :: l,m,hl,h=>by
  rw [o8] at hl
  have hx:=h x (by simp)
  have ih:=MB l (m.erase x) hl.2 (fun y hy=>(List.mem_erase_of_ne (by rintro rfl;exact hl.1 hy)).2 (h y (by simp [hy])))
  rw [List.length_erase_of_mem hx] at ih
  have:=List.length_pos_of_mem hx
  rw [List.length_cons]
  omega
theorem Oj {S K d}(h:Lk S K d)(p:Nat):(K p).length≤S.live:=by
 rw [show S.live=_ from DZ S.slots]
 refine MB _ _ (h.nodup p) (fun x hx=>?_)
 have hs:=(h.kin p x hx).2
 rw [List.mem_filter,iw]
 obtain⟨n,hn⟩:=aB.1 hs
 exact⟨iy hn,hs⟩
def WG (w:World)(S:Tr)(l:List Nat)(ov lv kv:Value)(wr:World):Prop :=
 ∃(j:Nat) (v:Value),j≤l.length∧v=ov∧lv=.int .i64 (hO S (pv l j))∧kv=.int .i64 (hO S l[j]?)∧wr.ownsRow w.heap.size 3 1 v j (hC ((l.take j).map S.hd))∧Below w.heap.size w wr
theorem LJ {B R g cap:Nat}{S:Tr}{fv:Value}{w:World}{K:Nat→List Nat}{d:Nat→Nat}(h:fZ B R S (.slice (some ⟨g,0,none⟩) S.slots.length cap) fv w)(hL:Lk S K d)(i:Nat)(n:Nd)(hi:S.at i=some n) :
  Calls Tryz.prog 118 #[.pointer (some ⟨R,0,none⟩),.int .i64 (S.hd i)] w fun e w'=>∃v,e=.returned (.tuple #[v,.bool true])∧w'.ownsRow w.heap.size 3 1 v (K i).length (hC ((K i).map S.hd))∧Below w.heap.size w w':=by
 have HA:=ae (bV h (S.hd i) (hd_ok hL hi).1 (fV hL hi))
 have HT:=ae h
 have HL:=ae hL
 have HI:=ae hi
 have hkl:=lX hL i
 have hkv:=Oj hL i
 have cf:=bK h hi 5 (by omega)
 have cl:=bK h hi 6 (by omega)
 simp only [jd,fQ,fP] at cf cl
 obtain⟨i0,hi0,hz0,hz1,hz2⟩:=WY Tn
 rw [(hL.node i n hi).1] at cf
 rw [(hL.node i n hi).2,← tX] at cl
 clear h hL hi
 go_enter Tryz.func118,Tryz.ntmps118
 go_wp2_with fail
 refine HA.out.mono ?_
 rintro e w2 ⟨rfl,hb2⟩
 have cf2:=aU hb2 cf
 clear cf
 go_wp2_with fail
 go_loopw [7,8,9] (fun ov lv kv wr=>WG w S (K i) ov lv kv wr) (fun ov _ _ _=>(K i).length - slen ov)
 case atStart=>exact⟨0,_,by omega,rfl,rfl,rfl,aG _ _ _ _,hb2⟩
 case round =>
  obtain⟨j,ov,hj,rfl,rfl,rfl,hown,hB⟩:=hrel
  by_cases hlt:j < (K i).length
  ·obtain⟨k,hk⟩:∃k,(K i)[j]? = some k:=⟨_,ay hlt⟩
   obtain⟨nk,hnk⟩:=HL.out.some hk
   have hpos:=(hd_ok HL.out hnk).2
   have hho:=(hd_ok HL.out hnk).1
   have HA2:=ae (fun wx (hb:Below w.heap.size w wx)=>bV (HT.out.below hb) (S.hd k) hho (fV HL.out hnk))
   have HC:=ae (fun wx (hb:Below w.heap.size w wx)=>bK (HT.out.below hb) hnk 8 (by omega))
   obtain⟨hpar,hprev,hnext⟩:=HL.out.kid i j k nk hk hnk
   have hprev:nk.prev=hO S (pv (K i) j):=hprev
   have HN:=ae (show hO S (pv (K i) (j+1))=S.hd k by unfold pv;rw [ax (by omega),Nat.add_sub_cancel,hk];rfl)
   have H4:=ae (fun wx (hb:Below w.heap.size w wx)=>(bK (HT.out.below hb) hnk 4 (by omega)).trans (show _=Option.some (Value.int .i64 (S.hd i)) by rw [← hpar];rfl))
   have H7:=ae (fun wx (hb:Below w.heap.size w wx)=>(bK (HT.out.below hb) hnk 7 (by omega)).trans (show _=Option.some (Value.int .i64 (hO S (pv (K i) j))) by rw [← hprev];rfl))
   have HLN:=ae (fun wx (hb:Below w.heap.size w wx)=>len_any (HT.out.below hb))
   have HTK:=ae (show hC (((K i).take (j+1)).map S.hd)=hC (((K i).take j).map S.hd) ++ [.int .i64 (S.hd k)] by
    unfold hC;rw [fJ,hk];simp)
   have hne:¬S.hd k=0:=by omega
   have hne2:(S.hd k == 0)=false:=by simpa using hne
   rw [hk,show hO S (Option.some k)=S.hd k from rfl]
   have hsl:=GZ hown
   obtain⟨oa,oc,rfl⟩:=bP hown
   have HO:=ae hown
   have d8:decide ((S.live:Int) < (j:Int))=false:=by simp;omega
   clear hown hpar hprev hsl
   generalize S.hd k=hk1 at *
   generalize hO S (pv (K i) j)=hp1 at *
   generalize S.hd i=hi1 at *
   generalize hC (((K i).take j).map S.hd)=XS at *
   go_wp2_with fail
   refine(HA2.out _ hB).mono ?_
   rintro e w3 ⟨rfl,hb3⟩
   have hB3:=hB.trans (hb3.mono hB.size)
   have c4:=H4.out _ hB3
   have c7:=H7.out _ hB3
   have hlt2:=fun g (hg:(Value.slice oa j oc).ownBlock=some g)=>(HO.out.lt g hg).1
   have HO3:=ae (fH HO.out hb3)
   clear HO
   go_wp2_with fail
   refine(HLN.out _ hB3).mono ?_
   rintro e w4 ⟨rfl,hw⟩
   rw [hw]
   clear hw c4 c7
   have HO4:=ae (show ∀A,(w3.alloc A).ownsRow w.heap.size 3 1 (.slice oa j oc) j XS from fun A=>HO3.out.alloc A)
   go_wp2_with (at_builtin;refine qo _ rfl _ _ 31 rfl w.heap.size 3 i0 _ 1 8 Tryz.underlying31 hi0 hz0 hz1 hz2 rfl (by decide) _ j _ rfl (HO4.out _) _ 1 1 [.int .i64 hk1] rfl rfl (cell_one_new _ _ _) (by simp [Value.oneCell']) ?c1 ?c2 ?c3 ?_)
   case c1=>unfold maxLen;omega
   case c2=>omega
   case c3=>have:=hB3.size;simp;omega
   intro v' w5 hown5 hgr5 _
   rw [← HTK.out] at hown5
   have hB5:Below w.heap.size w w5:=(hB3.alloc hB3.size _).grown hgr5 (by have:=hB3.size;simp;omega) hlt2
   have HW:=ae hown5
   clear hown5 hgr5
   go_wp2_with fail
   refine(HA2.out _ hB5).mono ?_
   rintro e w6 ⟨rfl,hb6⟩
   have hB6:=hB5.trans (hb6.mono hB5.size)
   have c8:=HC.out _ hB6
   rw [show(jd nk)[8]? = Option.some (.int .i64 nk.next) from rfl,hnext] at c8
   have hsl6:=GZ HW.out
   have HW6:=ae (fH HW.out hb6)
   clear HW
   go_wp2_with fail
   exact⟨⟨j+1,_,by omega,rfl,by rw [HN.out],rfl,HW6.out,hB6⟩,by rw [hsl6];simp only [slen];omega⟩
  ·obtain rfl:j=(K i).length:=by omega
   rw [show(K i)[(K i).length]? = none from bQ (au _)]
   rw [dE] at hown
   have cl2:=aU hB cl
   have HW:=ae hown
   clear hown
   rw [show hO S none=0 from rfl]
   generalize hO S (pv (K i) (K i).length)=hp1 at *
   go_wp2_with fail
   go_quiet (fail)
   all_goals (go_wp2_with fail)
   go_ret2
   exact⟨_,rfl,fH HW.out (Below.drewN (ak _ _) _),Below.drewN hB _⟩
end Go.Proofs.YtfelmdkeaacfeaaGreatDoor.W
end
section
namespace Go.Proofs.YtfelmdkeaacfeaaGreatDoor.W
open Go.RowKit
theorem Lk.Px {S K d}(h:Lk S K d)(i:Nat):wZ K (128 - d i) i=1+((K i).map fun k=>wZ K (128 - d k) k).sum:=by
 cases e:128 - d i with
 | zero =>
  have hK:K i=[]:=by
   cases e2:K i with
   | nil=>rfl
   | cons k t =>
    have h1:=h.qc i k (by rw [e2];simp)
    have h2:=h.low k
    omega
  rw [hK];rfl
 | succ f =>
  show 1+((K i).map (wZ K f)).sum=_
  congr 2
  refine fM (fun k hk=>?_)
  have h1:=h.qc i k hk
  have h2:=h.low k
  rw [show 128 - d k=f by omega]
theorem xK {x:Nat}:∀{l:List Nat},x∈l→x≤l.sum
 | y :: l,h=>by
  rw [List.sum_cons]
  rcases bn.1 h with rfl | h
  ·omega
  ·have:=xK h;omega
theorem Lk.Kt {S K d}(h:Lk S K d){i:Nat}(hi:(S.at i).isSome=true):wZ K (128 - d i) i≤1000000:=by
 have h1:=h.pos i hi
 have h2:=h.low i
 have hc:=yu h (128 - d i) (d i - 1) ((List.range S.slots.length).filter fun j=>(S.at j).isSome && decide (d j=d i)) (by omega) (List.Pairwise.filter _ List.nodup_range) (fun j=>by
  rw [List.mem_filter,iw,aH,zY]
  constructor
  ·rintro⟨_,a,b⟩;exact⟨a,by omega⟩
  ·rintro⟨a,b⟩
   obtain⟨n,hn⟩:=aB.1 a
   exact⟨iy hn,a,by omega⟩)
 have hm:wZ K (128 - d i) i∈((List.range S.slots.length).filter fun j=>(S.at j).isSome && decide (d j=d i)).map (wZ K (128 - d i)):=by
  refine bC.2 ⟨i,?_,rfl⟩
  obtain⟨n,hn⟩:=aB.1 hi
  rw [List.mem_filter,iw]
  exact⟨iy hn,by rw [hi];simp⟩
 have h3:=xK hm
 rw [hc] at h3
 have h4:(deep S d (d i - 1)).length≤S.slots.length:=by
  unfold deep
  have:=gU (fun j=>(S.at j).isSome && decide (d i - 1 < d j)) (List.range S.slots.length)
  simpa using this
 have:=h.few
 omega
theorem IK (l:List Nat)(j:Nat):(l.take j).sum≤l.sum:=by
 conv=>rhs;rw [← bG j l,List.sum_append]
 omega
def Wh (w:World)(S:Tr)(K:Nat→List Nat)(d:Nat→Nat)(i:Nat)(v:Value)(cv jv:Value)(wr:World):Prop :=
 ∃j:Nat,j≤(K i).length∧jv=.int .i64 (j:Int)∧cv=.int .i64 ((1+(((K i).take j).map fun k=>wZ K (128 - d k) k).sum:Nat):Int)∧wr.ownsRow w.heap.size 3 1 v (K i).length (hC ((K i).map S.hd))∧Below w.heap.size w wr
end Go.Proofs.YtfelmdkeaacfeaaGreatDoor.W
end
section
namespace Go.Proofs.YtfelmdkeaacfeaaGreatDoor.W
open Go
section
variable {P : Program} {ops : Array Oper} {L : Pl} {md : Region.Mode} {m n0 : Nat} {Q : Array Bool → Nat → List Ob → Act → Prop}
theorem Dk (o:Oper)(w:World)(a:Act):∀f,o.about P w a.eval=some f→Fence.wide.fn f:=fun _ _=>trivial
theorem BL {t:Nat}{Q':Exit→Act→World→Prop}(hS:∀k X w,L.C k X w→L.S w)(hM:∀k X w cs ty,L.C k X w→L.C k (bk w.heap.size cs ty :: X) (w.alloc (.cells cs.toArray ty)))
  (hQ:∀listed k X a w,L.C k X w→Q listed k X a→wpAnyIn Fence.wide n0 P md ops Q' t listed a w) :
  ∀(n:Nat) (listed:Array Bool) (k:Nat) (X:List Ob) (a:Act) (w:World),L.C k X w→oO P ops L md m Q n listed k X a→wpAnyIn Fence.wide n0 P md ops Q' (n+t) listed a w:=by
 intro n
 induction n with
 | zero=>intro listed k X a w hw h;rw [aJ];exact hQ _ _ _ _ _ hw h.2
 | succ n ih =>
  intro listed k X a w hw h
  rw [show n+1+t=(n+t)+1 by omega]
  refine⟨fun e=>absurd e h.1,fun i hi=>?_⟩
  obtain⟨_,o,ho,_⟩:=jD.1 hi
  obtain⟨hok,hn⟩:=(h.2 i hi).2 o ho
  unfold wpOpIn
  simp only [ho]
  cases hwt:Region.wanted o (yielded ops a.tmps) with
  | false =>
   simp only [iV,iJ]
   exact⟨Dk o w a,ih _ _ _ _ _ hw (hn k [] undef (.inl ⟨hwt,rfl,rfl,rfl⟩))⟩
  | true =>
   simp only [oW]
   obtain⟨o1,o2,o3⟩:=hok hwt
   unfold Oper.wpIn
   refine⟨Dk o w a,?_⟩
   rw [show Fence.wide.round=none from rfl,Oper.semAt_none]
   rcases lh o with e | e | e
   ·obtain⟨v,hv⟩:=o1 e
    have hk:=hn k [] v (.inr ⟨hwt,.inl ⟨e,hv,rfl,rfl⟩⟩)
    rcases hv w (hS _ _ _ hw) with r | ⟨r,rfl⟩
    ·rw [r];exact ih _ _ _ _ _ hw hk
    ·rw [r];exact ih _ _ _ _ _ hw hk
   ·obtain⟨f,args,r,hc⟩:=o2 e X w hw
    have hk:=hn (k+1) [] (L.val k) (.inr ⟨hwt,.inr (.inl ⟨e,rfl,rfl,rfl⟩)⟩)
    rw [r]
    refine⟨fun h=>absurd h (by decide),CallsIn.mono (jP.2 hc) ?_⟩
    rintro e w' ⟨rfl,hw'⟩
    exact ih _ _ _ _ _ hw' hk
   ·have r:=o3 e w
    have hk:=hn k [bk w.heap.size (L.cs i) (L.ty i)] (L.made i w.heap.size) (.inr ⟨hwt,.inr (.inr ⟨e,rfl,w.heap.size,rfl,rfl⟩)⟩)
    rw [r]
    exact ih _ _ _ _ _ (hM _ _ _ _ _ hw) hk
theorem yO {Q':Exit→Act→World→Prop}:∀(l:List Oper) (k:Nat) (listed:Array Bool) (a:Act) (w:World),(∀j,l[j]? = ops[k+j]?)→tail4 md ops l.length k listed=true→wpListIn Fence.wide n0 P ops Q' l a w→wpAnyIn Fence.wide n0 P md ops Q' l.length listed a w
 | [],k,listed,a,w,hl,hB,h=>⟨by simpa [tail4] using hB,h⟩
 | o :: l,k,listed,a,w,hl,hB,h=>by
  have h0:ops[k]? = some o:=by simpa using (hl 0).symm
  simp only [List.length_cons,tail4,aH,WT] at hB
  obtain⟨hr,hB'⟩:=hB
  refine⟨fun e=>(by rw [hr] at e;cases e),fun i hi=>?_⟩
  rw [hr,eF] at hi
  subst hi
  unfold wpOpIn
  simp only [h0]
  have hrec:∀a' w',wpListIn Fence.wide n0 P ops Q' l a' w'→wpAnyIn Fence.wide n0 P md ops Q' l.length (listed.setIfInBounds i true) a' w':=fun a' w' h'=>yO l (i+1) _ a' w' (fun j=>by have:=hl (j+1);simpa [lN,oZ 1 j] using this) hB' h'
  unfold wpListIn at h
  split
  ·rename_i hw
   rw [aC hw] at h
   exact Oper.wpIn_mono hrec h
  ·rename_i hw
   rw [ax hw] at h
   exact⟨h.1,hrec _ _ h.2⟩
theorem GN {id:Nat}{Q':Exit→Act→World→Prop}{a:Act}{w:World}{l:List Oper}(L:Pl)(m:Nat)(hm:P.follows .mixedOrders=true)(hB:xh .any l.toArray m (l.length - m)=true)
  (hS:∀k X w,L.C k X w→L.S w)(hM:∀k X w cs ty,L.C k X w→L.C k (bk w.heap.size cs ty :: X) (w.alloc (.cells cs.toArray ty)))(hP:∀k X Y w,X.Perm Y→L.C k X w→L.C k Y w)(hC:L.C 0 [] w.drew)
  (h:qi P l.toArray L (fun k X a'=>∀w',L.C k X w'→wpListIn Fence.wide n0 P l.toArray Q' (l.drop m) a' w') 0 0 [] (l.take m) a):(Code.region id l.toArray true).wpIn Fence.wide n0 P Q' a w:=by
 simp only [xh,aH,dG] at hB
 obtain⟨⟨⟨hs,hlx⟩,hb⟩,hsz⟩:=hB
 have hml:m≤l.length:=by simp at hsz;omega
 have htk:(l.take m).length=m:=by simp [hml]
 refine wpIn_region_any hm ?_
 have h1:=nG (P:=P) (L:=L) (md:=.any) (m:=m) (t:=l.length - m) (Q:=fun listed k X a'=>∀w',L.C k X w'→wpAnyIn Fence.wide n0 P .any l.toArray Q' (l.length - m) listed a' w')
  (fun listed k X Y a hp hq w' hw'=>hq w' (hP _ _ _ _ hp.symm hw')) hs hb
  (fun listed k X a ht hq w' hw'=>by
   have:=yO (P:=P) (md:=.any) (ops:=l.toArray) (n0:=n0) (Q':=Q') (l.drop m) m listed a w' (fun j=>by simp) (by simpa using ht) (hq w' hw')
   simpa using this)
  (l.take m) 0 (Array.replicate l.toArray.size false) 0 [] a (by rw [htk];omega) (fun j hj=>by rw [eX];simp at hj ⊢;omega) (by simp) (by simp;intro j hj;simp [hj]) (by rw [htk];exact hlx) h
 have h2:=BL (n0:=n0) (Q':=Q') hS hM (fun listed k X a w' hw' hq=>hq w' hw') _ _ 0 [] a _ hC h1
 have e:(l.take m).length+(l.length - m)=l.toArray.size:=by rw [htk];simp;omega
 rw [e] at h2
 exact h2
end
end Go.Proofs.YtfelmdkeaacfeaaGreatDoor.W
end
section
namespace Go.Proofs.YtfelmdkeaacfeaaGreatDoor.W
open Go.RowKit
attribute [local go_sem] Oper.semAt_some
def UU (n:Nd):Value:=.agg #[.int .i64 n.kind,.string ⟨n.name.toArray⟩,n.av,.string ⟨n.data.toArray⟩,.int .i64 n.parent,.int .i64 n.first,.int .i64 n.last,.int .i64 n.prev,.int .i64 n.next]
def Sj (S:Tr)(x:SV S):Array Value:=#[.int .i64 (S.hd x.1),UU (jh S x.1)]
def Ak (S:Tr)(i:Nat):Option (SV S):=match h:S.slots[i]? with | some (some n)=>some ⟨i,n,h⟩ | _=>none
def came (S:Tr)(k:Nat):List (SV S):=(List.range k).filterMap (Ak S)
theorem Kv {S:Tr}{i:Nat}{n:Nd}(h:S.slots[i]? = some (some n)):Ak S i=some ⟨i,n,h⟩:=by
 unfold Ak
 split
 ·rfl
 ·rename_i h2
  exact absurd h (h2 n)
theorem NP {S:Tr}{i:Nat}(h:S.slots[i]? = some none):Ak S i=none:=by
 unfold Ak
 split
 ·rename_i n h2
  rw [h] at h2
  simp at h2
 ·rfl
theorem JG {S:Tr}{k:Nat}{n:Nd}(h:S.slots[k]? = some (some n)):came S (k+1)=came S k ++ [⟨k,n,h⟩]:=by
 unfold came
 rw [List.range_succ,List.filterMap_append,List.filterMap_cons,Kv h]
 rfl
theorem Ns {S:Tr}{k:Nat}(h:S.slots[k]? = some none):came S (k+1)=came S k:=by
 unfold came
 rw [List.range_succ,List.filterMap_append,List.filterMap_cons,NP h]
 simp
theorem QI (S:Tr)(k:Nat):(came S k).length≤k:=by
 have:=List.length_filterMap_le (Ak S) (List.range k)
 simpa [came] using this
def yM (W w:World):Prop:=Below W.heap.size W w
def Agree (w0 W:World):Prop:=w0.heap.size≤W.heap.size∧∀k,k < w0.heap.size→W.heap[k]? = w0.heap[k]?
theorem Agree.refl (w:World):Agree w w:=⟨au _,fun _ _=>rfl⟩
theorem Agree.below {w0 W W':World}(h:Agree w0 W)(hb:Below W.heap.size W W'):Agree w0 W':=⟨aQ h.1 hb.size,fun k hk=>(hb.block k (aO hk h.1)).trans (h.2 k hk)⟩
theorem fZ.agree {B R:Nat}{S:Tr}{sv fv:Value}{w W:World}(h:fZ B R S sv fv w)(k:Agree w W):fZ B R S sv fv W:=by
 have keep:∀{e sz n:Nat} {v:Value} {xs:List Value},w.ownsRow B e sz v n xs→W.ownsRow B e sz v n xs:=fun h=>gW h (fun g hg=>k.2 g (h.lt g hg).2)
 refine⟨h.blk.kept (k.2 R h.blk.lt),keep h.slots,keep h.free,fun i n hi=>?_,h.base,h.few⟩
 obtain⟨a,cp,e,hx⟩:=h.attrs i n hi
 exact⟨a,cp,e,hx.imp id fun⟨g',cur',e1,e2,e3,e4⟩=>⟨g',cur',e1,e2,(k.2 g' (gp e3)).trans e3,e4⟩⟩
def WN (S:Tr)(R Bs:Nat)(w0:World)(J:List (SV S)→World→Prop)(iv:Value)(wr:World):Prop :=
 ∃k:Nat,k≤S.slots.length∧iv=.int .i64 (k:Int)∧J (came S k) wr∧dD wr Bs [.pointer (some ⟨R,0,none⟩)] 155∧Agree w0 wr
theorem all1_in {S:Tr}{B R Bs l n g cap:Nat}{fv:Value}{w0 W:World}{J Jx:List (SV S)→World→Prop}{Kp:World→World→Prop}(h0':fZ B R S (.slice (some ⟨g,0,none⟩) S.slots.length cap) fv w0)(hJ:AbidesFrom W.heap.size J)(hn:1≤n)
  (hKA:∀W W',Kp W W'→Agree w0 W→Agree w0 W')(hKB:∀W W',Kp W W'→dD W Bs [.pointer (some ⟨R,0,none⟩)] 155→dD W' Bs [.pointer (some ⟨R,0,none⟩)] 155)
  (hY:∀pre x W,J pre W→pre.length < S.slots.length→YieldAt Fence.wide (n - 1) Tryz.prog l (Sj S x) W fun e W' =>
   (e=.returned (.bool true)∧J (pre ++ [x]) W'∧Kp W W')∨(e=.returned (.bool false)∧Jx (pre ++ [x]) W'))
  (hBs:dD W Bs [.pointer (some ⟨R,0,none⟩)] 155)(hA:Agree w0 W)(h0:J [] W) :
  CallsIn Fence.wide n Tryz.prog 115 #[.func (.yield l) #[] #[],.pointer (some ⟨Bs,0,none⟩)] W fun e W'=>(∃v,e=.returned v) ∧
   ((∃ys,ys=came S S.slots.length∧J ys W')∨(∃pre,(∃k,k≤S.slots.length∧pre=came S k)∧Jx pre W')):=by
 have HT:=ae (fun w (k:Agree w0 w)=>h0'.agree k)
 have hfew:=h0'.few
 have c0:=hBs.cell 0
 have d0:=(HT.out W hA).blk.cell 2
 simp only [fP,fQ] at c0 d0
 have HJ:=ae hJ
 have HY:=ae hY
 have HB:=ae hBs
 have HA:=ae hA
 have HKA:=ae hKA
 have HKB:=ae hKB
 have H0:=ae h0
 clear hJ hY hBs hA hKA hKB h0 h0'
 refine XL Tryz.func115 rfl trivial ?_ rfl
 simp only [Tryz.ntmps115,gZ,List.length_cons,List.length_nil,Nat.reduceAdd,Nat.reduceSub,ji,Array.replicate_zero,jS,jE,List.nil_append,List.cons_append]
 gi_wp2
 gi_loopw [9] (fun iv wr=>WN S R Bs w0 J iv wr) (fun iv _=>S.slots.length - (intOf iv).toNat)
 case atStart=>exact⟨0,aZ _,rfl,H0.out,HB.out,HA.out⟩
 case round =>
  clear c0 d0
  obtain⟨k,hk,rfl,hJw,hBw,hAw⟩:=hrel
  by_cases hkl:k < S.slots.length
  ·obtain⟨u,hu⟩:∃u,S.slots[k]? = some u:=⟨_,ay hkl⟩
   have hTw:=HT.out wr hAw
   have e0:=dm hTw hu 0 (by omega)
   have e1:=dm hTw hu 1 (by omega)
   have e2:=dm hTw hu 2 (by omega)
   have e3:=dm hTw hu 3 (by omega)
   have e4:=dm hTw hu 4 (by omega)
   have e5:=dm hTw hu 5 (by omega)
   have e6:=dm hTw hu 6 (by omega)
   have e7:=dm hTw hu 7 (by omega)
   have e8:=dm hTw hu 8 (by omega)
   have e9:=dm hTw hu 9 (by omega)
   rw [Nat.add_zero] at e0
   have elt:=(hTw.slots.lt g rfl).2
   have f0:=hBw.cell 0
   have g0:=hTw.blk.cell 0
   have g1:=hTw.blk.cell 1
   have g2:=hTw.blk.cell 2
   simp only [fP,fQ] at f0 g0 g1 g2
   have flt:=hBw.lt
   have glt:=hTw.blk.lt
   have y0:=fun x:dS (yM wr)=>(RowKit.Below.cell x.h (p:=⟨Bs,0,none⟩) flt).trans f0
   have y1:=fun x:dS (yM wr)=>(RowKit.Below.cell x.h (p:=⟨R,0,none⟩) glt).trans g0
   have y2:=fun x:dS (yM wr)=>(RowKit.Below.cell x.h (p:=⟨R,1,none⟩) glt).trans g1
   have y3:=fun x:dS (yM wr)=>(RowKit.Below.cell x.h (p:=⟨R,2,none⟩) glt).trans g2
   have hne:Nonempty (dS (yM wr)):=⟨⟨wr,ak _ _⟩⟩
   have HBw:=ae hBw
   have HAw:=ae hAw
   have HJw:=ae hJw
   have HU:=ae hu
   cases u with
   | none =>
    simp only [jB,List.getElem?_cons_zero] at e0
    have y4:=fun x:dS (yM wr)=>(RowKit.Below.cell x.h (p:=⟨g,k*10,none⟩) elt).trans e0
    clear hBw hAw hJw hu f0 g0 g1 g2 e0 e1 e2 e3 e4 e5 e6 e7 e8 e9 elt flt glt hTw
    gi_wp2
    refine GN ⟨yM wr,fun _ _ w=>yM wr w,fun _=>.int .i64 (hdl S.b S.s (k:Nat)),fun _ _=>undef,fun _=>[],fun _=>0⟩ 24 (by kernel_rfl) (by kernel_rfl) (fun _ _ _ h=>h) (fun _ _ w cs ty h=>RowKit.Below.alloc h h.size _) (fun _ _ _ _ _ h=>h) ((ak _ _).drew) ?_
    simp only [mD,mr,l9,lZ]
    repeat (first
     | (refine aN (by rfl) (by rfl) (fun K hK=>?_);go_big_quiet_step (fail);refine az ?_;refine hK.out _ ?_;clear hK K)
     | (refine aK (by rfl) ?_;simp only [Act.put,dL,dK,dJ]))
    refine eH ?_
    intro w2 hw2
    clear y0 y1 y2 y3 y4 hne
    gi_wp2
    refine⟨fun _ _=>trivial,?_⟩
    gi_wp2
    go_roundw
    case rel =>
     have hb:Below wr.heap.size wr w2:=hw2
     exact⟨k+1,by omega,by go_num,by rw [Ns HU.out];exact HJ.out _ _ _ none HJw.out (kU hb) (fun r e=>by cases e),HBw.out.below hb,HAw.out.below hb⟩
    case measure=>simp [intOf];omega
   | some nd =>
    simp only [jB,jd,dA,fP,fQ] at e0 e1 e2 e3 e4 e5 e6 e7 e8 e9
    have y4:=fun x:dS (yM wr)=>(RowKit.Below.cell x.h (p:=⟨g,k*10,none⟩) elt).trans e0
    have z1:=fun x:dS (yM wr)=>(RowKit.Below.cell x.h (p:=⟨g,k*10+1,none⟩) elt).trans e1
    have z2:=fun x:dS (yM wr)=>(RowKit.Below.cell x.h (p:=⟨g,k*10+2,none⟩) elt).trans e2
    have z3:=fun x:dS (yM wr)=>(RowKit.Below.cell x.h (p:=⟨g,k*10+3,none⟩) elt).trans e3
    have z4:=fun x:dS (yM wr)=>(RowKit.Below.cell x.h (p:=⟨g,k*10+4,none⟩) elt).trans e4
    have z5:=fun x:dS (yM wr)=>(RowKit.Below.cell x.h (p:=⟨g,k*10+5,none⟩) elt).trans e5
    have z6:=fun x:dS (yM wr)=>(RowKit.Below.cell x.h (p:=⟨g,k*10+6,none⟩) elt).trans e6
    have z7:=fun x:dS (yM wr)=>(RowKit.Below.cell x.h (p:=⟨g,k*10+7,none⟩) elt).trans e7
    have z8:=fun x:dS (yM wr)=>(RowKit.Below.cell x.h (p:=⟨g,k*10+8,none⟩) elt).trans e8
    have z9:=fun x:dS (yM wr)=>(RowKit.Below.cell x.h (p:=⟨g,k*10+9,none⟩) elt).trans e9
    obtain⟨nav,ncp,hav,_⟩:=hTw.attrs k nd hu
    rw [hav] at z3
    have HAV:=ae hav
    clear hBw hAw hJw hu f0 g0 g1 g2 e0 e1 e2 e3 e4 e5 e6 e7 e8 e9 elt flt glt hTw hav
    gi_wp2
    refine GN ⟨yM wr,fun _ _ w=>yM wr w,fun _=>.int .i64 (hdl S.b S.s (k:Nat)),fun _ _=>undef,fun _=>[],fun _=>0⟩ 24 (by kernel_rfl) (by kernel_rfl) (fun _ _ _ h=>h) (fun _ _ w cs ty h=>RowKit.Below.alloc h h.size _) (fun _ _ _ _ _ h=>h) ((ak _ _).drew) ?_
    simp only [mD,mr,l9,lZ]
    repeat (first
     | (refine aN (by rfl) (by rfl) (fun K hK=>?_);go_big_quiet_step (fail);refine az ?_;refine hK.out _ ?_;clear hK K)
     | (refine aK (by rfl) ?_;simp only [Act.put,dL,dK,dJ]))
    refine dM (.int .i64 (hdl S.b S.s (k:Nat))) rfl (by rfl) (by rfl) (fun w=>by go_simp;exact⟨rfl,rfl⟩) ?_ ?_
    ·intro X w2 h2
     refine(yh S.b S.s (k:Nat) w2).mono ?_
     rintro e w3 ⟨rfl,hb⟩
     exact⟨rfl,jw h2 (hb.mono h2.size)⟩
    simp only [Act.put,dL,dK,dJ]
    repeat (first
     | (refine aN (by rfl) (by rfl) (fun K hK=>?_);go_big_quiet_step (fail);refine az ?_;refine hK.out _ ?_;clear hK K)
     | (refine aK (by rfl) ?_;simp only [Act.put,dL,dK,dJ]))
    refine eH ?_
    intro w2 hw2
    clear y0 y1 y2 y3 y4 z1 z2 z3 z4 z5 z6 z7 z8 z9 hne
    have hb:Below wr.heap.size wr w2:=hw2
    have hJ2:J (came S k) w2:=HJ.out _ _ _ none HJw.out (kU hb) (fun r e=>by cases e)
    have hY2:=HY.out (came S k) ⟨k,nd,HU.out⟩ w2 hJ2 (by have:=QI S k;omega)
    obtain⟨fn,tmps,assign,body,hy,hR⟩:=hY2
    have hv:jh S k=nd:=by unfold jh;rw [nX HU.out];rfl
    simp only [Sj,hv,UU,HAV.out,Tr.hd] at hy
    have HB2:=ae (HBw.out.below hb)
    have HA2:=ae (HAw.out.below hb)
    have HCY:=ae (JG HU.out)
    clear hb hJ2 hv
    gi_wp2
    refine hR.mono ?_
    rintro e W3 (⟨rfl,hJ3,hk3⟩ | ⟨rfl,hJx3⟩)
    ·have HB3:=ae (HKB.out _ _ hk3 HB2.out)
     have HA3:=ae (HKA.out _ _ hk3 HA2.out)
     have HJ3:=ae hJ3
     clear hy hR hJ3 hk3
     gi_wp2
     go_roundw
     case rel=>exact⟨k+1,by omega,by go_num,by rw [HCY.out];exact HJ3.out,HB3.out,HA3.out⟩
     case measure=>simp [intOf];omega
    ·have HJ3:=ae hJx3
     clear hy hR hJx3
     gi_wp2
     refine nZ (results_none rfl _ _ _) rfl ?_
     exact⟨⟨_,rfl⟩,.inr ⟨_,⟨k+1,by omega,HCY.out.symm⟩,HJ3.out⟩⟩
  ·obtain rfl:k=S.slots.length:=by omega
   have HJw:=ae hJw
   clear hJw hBw hAw
   gi_wp2
   go_end0
   exact⟨⟨_,rfl⟩,.inl ⟨_,rfl,HJw.out⟩⟩
end Go.Proofs.YtfelmdkeaacfeaaGreatDoor.W
end
section
namespace Go.Proofs.YtfelmdkeaacfeaaGreatDoor.W
open Go.RowKit
attribute [local go_sem] Oper.semAt_some
theorem JH (S:Tr):∀k,k≤S.slots.length→(came S k).map (·.1)=(List.range k).filter fun i=>(S.at i).isSome
 | 0,_=>rfl
 | k+1,hk=>by
  obtain⟨u,hu⟩:∃u,S.slots[k]? = some u:=⟨_,ay (by omega)⟩
  have ih:=JH S k (by omega)
  rw [List.range_succ,List.filter_append,← ih]
  cases u with
  | none =>
   have:(S.at k).isSome=false:=by unfold Tr.at;rw [hu];rfl
   rw [Ns hu]
   simp [this]
  | some n =>
   have:(S.at k).isSome=true:=by rw [nX hu];rfl
   rw [JG hu]
   simp [this]
theorem QG (S:Tr)(K:Nat→List Nat)(pre:List (SV S))(x:SV S):cnt S K (pre ++ [x])=cnt S K pre+qY S K x.1:=by unfold cnt;simp
theorem Me (f:Nat→Nat)(p:Nat→Bool):∀l:List Nat,(l.map fun i=>if p i=true then f i else 0).sum=((l.filter p).map f).sum
 | []=>rfl
 | x :: l=>by
  rw [fE,List.sum_cons,Me f p l,List.filter_cons]
  split <;> simp
theorem qF {S:Tr}{i:Nat}{n:Nd}(h:S.at i=some n):jh S i=n:=by unfold jh;rw [h];rfl
theorem wH {S K d}(h:Lk S K d){i:Nat}{n:Nd}(hi:S.at i=some n):n.parent=0↔∀p,i∉K p:=by
 constructor
 ·intro h0 p hp
  obtain⟨j,hj⟩:=aI.1 hp
  obtain⟨np,hnp⟩:=aB.1 (h.kin p i hp).1
  have h1:=(h.kid p j i n hj hi).1
  have h2:=(hd_ok h hnp).2
  omega
 ·intro hp;exact(h.top i n hi hp).1
theorem SE {S K d}(h:Lk S K d):cnt S K (came S S.slots.length)=S.live:=by
 have e:cnt S K (came S S.slots.length)=(((came S S.slots.length).map (·.1)).map (qY S K)).sum:=by unfold cnt;rw [nK];rfl
 rw [e,JH S _ (au _)]
 have h2:=Me (wZ K 127) (fun i=>decide ((jh S i).parent=0)) ((List.range S.slots.length).filter fun i=>(S.at i).isSome)
 have e3:((List.range S.slots.length).filter fun i=>(S.at i).isSome).map (qY S K)=((List.range S.slots.length).filter fun i=>(S.at i).isSome).map fun i=>if decide ((jh S i).parent=0)=true then wZ K 127 i else 0:=by
  refine fM (fun i _=>?_)
  unfold qY
  by_cases e:(jh S i).parent=0
  ·rw [aC e,aC (by simpa using e)]
  ·rw [ax e,ax (by simpa using e)]
 rw [e3,h2]
 refine OA h h.pos _ (List.Pairwise.filter _ (List.Pairwise.filter _ List.nodup_range)) (fun i=>?_)
 rw [List.mem_filter,List.mem_filter,iw,zY]
 constructor
 ·rintro⟨⟨_,a⟩,b⟩
  obtain⟨n,hn⟩:=aB.1 a
  rw [qF hn] at b
  exact⟨a,(wH h hn).1 b⟩
 ·rintro⟨a,b⟩
  obtain⟨n,hn⟩:=aB.1 a
  exact⟨⟨iy hn,a⟩,by rw [qF hn];exact(wH h hn).2 b⟩
theorem JR {S K d}(h:Lk S K d){i:Nat}{n:Nd}(hi:S.at i=some n):qY S K i≤1000000:=by
 unfold qY
 rw [qF hi]
 split
 ·rename_i h0
  have h1:=h.one i (by rw [hi];rfl) ((wH h hi).1 h0)
  have:=h.Kt (i:=i) (by rw [hi];rfl)
  rwa [h1] at this
 ·omega
theorem cnt_le {S K d}(h:Lk S K d)(pre:List (SV S)):cnt S K pre≤pre.length*1000000:=by
 unfold cnt
 induction pre with
 | nil=>simp
 | cons x pre ih =>
  obtain⟨i,n,hn⟩:=x
  have:=JR h (nX hn)
  simp only [fE,List.sum_cons,List.length_cons]
  rw [Nat.add_mul]
  omega
theorem SQ (R:Nat)(w:World):Calls Tryz.prog 80 #[.pointer (some ⟨R,0,none⟩)] w fun e w'=>e=.returned (.func (.func 115) #[] #[.pointer (some ⟨w.heap.size,0,none⟩)])∧w'=w.alloc (.cells #[.pointer (some ⟨R,0,none⟩)] 155):=by
 go_enter Tryz.func80,Tryz.ntmps80
 go_wp2
 go_ret
 exact⟨rfl,rfl⟩
def Q5 (Z:Nat)(F:Nat→Prop)(W W':World):Prop:=W.heap.size≤W'.heap.size∧∀k,k < Z→¬F k→W'.heap[k]? = W.heap[k]?
theorem zD {Z:Nat}{F:Nat→Prop}{A B C:World}(h:Q5 Z F A B)(k:Q5 Z F B C):Q5 Z F A C:=⟨aQ h.1 k.1,fun i hi hf=>(k.2 i hi hf).trans (h.2 i hi hf)⟩
theorem Vf {F:Nat→Prop}{w:World}(W:World)(l:Nat)(o o':Obj)(hl:w.heap.size≤l)(h:W.heap[l]? = some o)(_:o.isCells=false)(_:o.isWalk=false):Q5 w.heap.size F W (W.putObj l o') :=
 ⟨by simp,fun k hk _=>kV (by omega)⟩
theorem wU {Z:Nat}{F:Nat→Prop}{W W':World}(hZ:Z≤W.heap.size)(h:Below W.heap.size W W'):Q5 Z F W W':=⟨h.size,fun k hk _=>h.block k (by omega)⟩
theorem CV {Z:Nat}{F:Nat→Prop}{W:World}(p:Addr)(v:Value)(hp:F p.block):Q5 Z F W (W.setCell p v):=⟨by simp [World.setCell],fun k _ hf=>aF _ _ _ _ (fun e=>hf (e ▸ hp))⟩
theorem all_stops {S:Tr}{B R g cap Bs n:Nat}{fv:Value}{w0 w:World}{F:Nat→Prop}(h0:fZ B R S (.slice (some ⟨g,0,none⟩) S.slots.length cap) fv w0)(hA:Agree w0 w)(hn:1≤n)(hBs:dD w Bs [.pointer (some ⟨R,0,none⟩)] 155)
  (hF1:∀k,k < w0.heap.size→¬F k)(hF2:¬F Bs) :
  SeqStopsK Fence.wide n Tryz.prog 115 #[.pointer (some ⟨Bs,0,none⟩)] (Sj S) (Q5 w.heap.size F) (fun ys=>ys=came S S.slots.length) (fun pre=>∃k,k≤S.slots.length∧pre=came S k) S.slots.length w:=by
 intro l J Jx W hW hJ hJx hY hj
 refine all1_in h0 hJ hn (fun X X' hk hx=>⟨aQ hx.1 hk.1,fun k hlt=>(hk.2 k (aO hlt hA.1) (hF1 k hlt)).trans (hx.2 k hlt)⟩) (fun X X' hk hx=>hx.kept (hk.2 Bs hBs.lt hF2)) hY (hBs.below hW) (hA.below hW) hj
theorem EG {α : Type}{P:Program}{n:Nat}{g:Operand}{ps:Array Tmp}{assign body:Code}{Q:Exit→Act→World→Prop}{a:Act}{w:World}(upd:α→Nat→Act→Act)(bx:α→Nat→World→Prop)
  (h1:1≤n){gf:Nat}{lb:Array Value}(hg:a.eval g=.func (.func gf) #[] lb)(eg:∀args w,(callFunc gf args).run P w=.ok (.enter gf args) w)
  {encs:α→Array Value}{Kp:World→World→Prop}{S Sp:List α→Prop}{N:Nat}(hseq:SeqStopsK Fence.wide (n - 1) P gf lb encs Kp S Sp N w)
  (hKt:∀{A B C:World},Kp A B→Kp B C→Kp A C)(hKb:∀(W:World) (l:Nat) (o o':Obj),w.heap.size≤l→W.heap[l]? = some o→o.isCells=false→o.isWalk=false→Kp W (W.putObj l o'))(hps:∀x,(encs x).size=ps.size)
  (I:List α→World→Prop)(Ix:Code→List α→World→Prop)(hI:OwnFrom w.heap.size I)(hIx:∀c,OwnFrom w.heap.size (Ix c))(h0:I [] w)(hbx:∀x,OwnFrom w.heap.size (fun(gn:Nat) W=>bx x gn W))
  (hassign:∀(l:Nat) (pre:List α) (x:α) (W:World) (K:Act→World→Prop),I pre W→(∀gn W',KeepsFrom w.heap.size W W'→Kp W W'→I pre W'→bx x gn W'→K (upd x gn a) W') →
   assign.wpIn (Fence.wide.inRound l) (n - 1 - 1) P (Exit.then K (fun _ _ _=>False)) { tmps:=(ps.zip (encs x)).foldl (fun t (p,v)=>t.setIfInBounds p v) a.tmps,defers:=[] } W)
  (hbody:∀(l:Nat) (pre:List α) (x:α) (gn:Nat) (W:World),I pre W→bx x gn W→pre.length < N→body.wpIn (Fence.wide.inRound l) (n - 1 - 1) P (ownPostG w.heap.size Kp I Ix (pre ++ [x]) W) (upd x gn a) W)
  (hdone:∀(D:Nat) (xs:List α) (W:World),w.heap.size≤D→S xs→I xs W→W.heap[D]? = some (.deferred (some []))→Q .normal { a with defers:={ target:=.collected D,args:=#[] } :: a.defers } W)
  (hstop:∀(D:Nat) (c:Code) (pre:List α) (W:World),w.heap.size≤D→Sp pre→Ix c pre W→W.heap[D]? = some (.deferred (some []))→c.wpIn Fence.wide n P Q { a with defers:={ target:=.collected D,args:=#[] } :: a.defers } W) :
  (Code.rangeFunc g ps assign body).wpIn Fence.wide n P Q a w :=
 wpIn_rangeFunc_ownH rfl h1 hg trivial eg hseq hKt hKb (ak _ _) hps I Ix hI hIx h0 (fun x a' W=>∃gn,a'=upd x gn a∧bx x gn W) (fun x a' _ A B row hs hgr hr=>by
   obtain⟨gn,e,hb⟩:=hs
   exact⟨gn,e,hbx x gn A B row hb hgr hr⟩)
  (fun l pre x W K hi hk=>hassign l pre x W K hi (fun gn W' k1 k2 k3 k4=>hk _ _ k1 k2 k3 ⟨gn,rfl,k4⟩))
  (fun l pre x a' W _ _ hi hx hlt=>by
   obtain⟨gn,rfl,hb⟩:=hx
   exact hbody l pre x gn W hi hb hlt) hdone hstop
def Uc (i j i' j':Nat)(x y:Value)(gn:Nat)(a:Act):Act:={ tmps:=(((a.tmps.setIfInBounds i x).setIfInBounds j y).setIfInBounds i' x).setIfInBounds j' (.pointer (some ⟨gn,0,none⟩)),defers:=[] }
end Go.Proofs.YtfelmdkeaacfeaaGreatDoor.W
end
section
namespace Go.Proofs.YtfelmdkeaacfeaaGreatDoor.W.RZ
open Go
open Go.Proofs.YtfelmdkeaacfeaaGreatDoor.W
section
variable {P : Program} {ops : Array Oper} {md : Region.Mode} {m : Nat}
end
section
variable (P : Program) (ops : Array Oper) (L : Pl)
end
section
variable {P : Program} {ops : Array Oper} {L : Pl} {md : Region.Mode} {m : Nat} {Q : Array Bool → List Value → List Ob → Act → Prop}
end
section
variable {P : Program} {ops : Array Oper} {L : Pl} {Q : List Value → List Ob → Act → Prop} {i : Nat} {k : List Value} {X : List Ob} {o : Oper} {rest : List Oper} {a : Act}
theorem Hf (hw:Region.wanted o (yielded ops a.tmps)=true)(hk:kindOf o=1)(hV:L.V k undef)
  (hC:∀Y w,(∀b∈X,b∈Y)→L.C k Y w→∃w',(execOp a.eval o).run P w=.ok .skip w'∧L.C (undef :: k) Y w')(h:∀v,L.V k v→qi P ops L Q (i+1) (v :: k) X rest (a.put o.dst v)):qi P ops L Q i k X (o :: rest) a:=by
 refine⟨fun _=>⟨fun e=>absurd (hk.symm.trans e) (by decide),fun _=>⟨⟨_,hV⟩,fun Y w hY hw'=>.inr (.inr (by obtain⟨w1,h1,h2⟩:=hC Y w hY hw';exact⟨w1,h1,hV,h2⟩))⟩,fun e=>absurd (hk.symm.trans e) (by decide)⟩,fun k' D v' hO=>?_⟩
 rcases hO with ⟨h',_⟩ | ⟨_,⟨e,_⟩ | ⟨_,hv,rfl,rfl⟩ | ⟨e,_⟩⟩
 ·rw [hw] at h';cases h'
 ·rw [hk] at e;cases e
 ·exact h _ hv
 ·rw [hk] at e;cases e
end
end Go.Proofs.YtfelmdkeaacfeaaGreatDoor.W.RZ
end
section
namespace Go.Proofs.YtfelmdkeaacfeaaGreatDoor.W
open Go.RowKit
theorem get_none {B R:Nat}{S:Tr}{sv fv:Value}{w:World}(h:fZ B R S sv fv w)(hd:Int)(hh:uY hd)(hk:S.ix hd=none) :
  Calls Tryz.prog 71 #[.pointer (some ⟨R,0,none⟩),.int .i64 hd] w fun e w'=>e=.returned (.tuple #[.agg (jd jV).toArray,.bool false])∧Below w.heap.size w w':=by
 have HF:=ae (fun wx (hb:Below w.heap.size w wx)=>Gg (h.below hb) hd hh hk)
 clear h hk
 have hb1:=(ak w.heap.size w).alloc (au _) (.cells (jd jV).toArray 62)
 have k1:=dD.new w (jd jV) 62
 go_enter Tryz.func71,Tryz.ntmps71
 go_wp2_with fail
 refine(HF.out _ hb1).mono ?_
 rintro e w2 ⟨rfl,hb2⟩
 have k2:=dD.below k1 hb2
 have HB2:=ae (aV hb1 hb2)
 simp only [jd,jV,dA] at k2 ⊢
 have c0:=k2.cell 0
 have c1:=k2.cell 1
 have c2:=k2.cell 2
 have c3:=k2.cell 3
 have c4:=k2.cell 4
 have c5:=k2.cell 5
 have c6:=k2.cell 6
 have c7:=k2.cell 7
 have c8:=k2.cell 8
 have cf:=k2.free
 simp only [fQ,fP] at c0 c1 c2 c3 c4 c5 c6 c7 c8
 have hlt:=k2.lt
 clear k1 hb1 hb2 HF
 go_wp2_with fail
 have k9:=(dD.over jV k2 rfl).alloc (.cells (jd jV).toArray 62)
 have b9:=(Below.over jV HB2.out (au w.heap.size)).alloc (by simp [World.setCell];omega) (.cells (jd jV).toArray 62)
 exact nZ (KD (by rfl) (by rfl) k9) rfl ⟨rfl,b9⟩
theorem N8 {B R:Nat}{S:Tr}{sv fv:Value}{w:World}(h:fZ B R S sv fv w)(hd:Int)(hh:uY hd)(hk:S.ix hd=none) :
  Calls Tryz.prog 24 #[.pointer (some ⟨R,0,none⟩),.int .i64 hd] w fun e w'=>∃v',e=.returned (.tuple #[.agg (jd { jV with av:=v' }).toArray,.bool false])∧w'.ownsRow w.heap.size 91 2 v' 0 []∧Below w.heap.size w w' :=
 PR (B:=B) (R:=R) jV false hd (fun wx hb=>get_none (h.below hb) hd hh hk) ⟨none,0,rfl,.inl rfl⟩ (by decide) h.blk.free h.blk.lt
end Go.Proofs.YtfelmdkeaacfeaaGreatDoor.W
end
section
namespace Go.Proofs.YtfelmdkeaacfeaaGreatDoor.W
open Go.RowKit
def yH (w:World)(X:List Ob)(w':World):Prop:=∀o∈X,o.P w'∧∀k,o.F k→w.heap.size≤k
theorem yH.below {w w1 w2:World}{X:List Ob}(h:yH w X w1)(hb:Below w1.heap.size w1 w2):yH w X w2:=fun o ho =>
 ⟨o.loc w1 w2 (h o ho).1 (fun k hk=>hb.block k (o.here w1 (h o ho).1 k hk)),(h o ho).2⟩
end Go.Proofs.YtfelmdkeaacfeaaGreatDoor.W
end
