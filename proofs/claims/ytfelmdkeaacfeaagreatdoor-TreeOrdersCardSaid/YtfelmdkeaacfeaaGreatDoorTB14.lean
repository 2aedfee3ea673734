/- Texts joined: Mr MrB Mo. -/
import Derived.Test.YtfelmdkeaacfeaaGreatDoorTB1
import Derived.Test.YtfelmdkeaacfeaaGreatDoorTB13
import Derived.LoopTactic
import Derived.Test.YtfelmdkeaacfeaaGreatDoorTB7
set_option maxRecDepth 100000
set_option maxHeartbeats 40000000
set_option linter.unusedVariables false
set_option linter.unusedSimpArgs false
section
namespace Go.Proofs.YtfelmdkeaacfeaaGreatDoor.W
open Go.RowKit
def PU (X:List MN)(i:Nat):Option Nat:=(lv X i).bind (·.par)
def oQ (X:List MN)(a:Nat):Nat→Option Nat→Bool
 | 0,_=>false
 | _,none=>false
 | f+1,some x=>a == x || oQ X a f (PU X x)
theorem MS {X:List MN}{i:Nat}{m:MN}(h:lv X i=some m):PU X i=m.par:=by unfold PU;rw [h];rfl
def UO (X:List MN)(o:Option Nat):Prop:=∀i,o=some i→∃m,lv X i=some m
theorem MW.Sm {X:List MN}{D:Nat→Nat}(h:MW X D){i:Nat}{m:MN}(hi:lv X i=some m):1≤D i:=by
 cases e:m.par with
 | none=>have:=h.top i m hi e;omega
 | some p=>obtain⟨mp,_,_,hd⟩:=h.par i m p hi e;omega
theorem MW.up {X:List MN}{D:Nat→Nat}(h:MW X D){i:Nat}{m:MN}(hi:lv X i=some m):UO X m.par∧dO D m.par+1=D i:=by
 cases e:m.par with
 | none=>exact⟨fun i hi=>(by cases hi),by have:=h.top i m hi e;simp [dO];omega⟩
 | some p =>
  obtain⟨mp,h1,_,hd⟩:=h.par i m p hi e
  exact⟨fun q hq=>(by cases hq;exact⟨mp,h1⟩),by simp [dO];omega⟩
section
variable {Q g cap : Nat} {X : List MX} {w : World} {D : Nat → Nat}
theorem at_in (a:Option Addr)(c:Nat)(l:List Nat)(i:Int)(w:World)(h:w.ownsRow 0 3 1 (.slice a l.length c) l.length (kC l))(hl:l.length≤1000000) :
  Calls Tryz.prog 96 #[.slice a l.length c,.int .i64 i] w fun e w'=>e=.returned (.int .i64 (pI (if 0≤i then l[i.toNat]? else none)))∧w'=w:=by
 by_cases h0:i < 0
 ·rw [ax (by omega)]
  have d0:decide (i < 0)=true:=by simpa using h0
  go_enter Tryz.func96,Tryz.ntmps96
  go_wp2_with fail
  go_ret
  exact⟨rfl,rfl⟩
 ·rw [aC (by omega)]
  have d0:decide (i < 0)=false:=by simpa using h0
  obtain⟨j,rfl⟩:=CZ (a:=i) (by omega)
  rw [Int.toNat_natCast]
  by_cases h1:j < l.length
  ·obtain⟨k,hk⟩:∃k,l[j]? = some k:=⟨_,ay h1⟩
   have d1:decide ((l.length:Int)≤(j:Int))=false:=by simp;omega
   have hjl:(j:Int) < (l.length:Int):=by omega
   obtain⟨g,hg⟩:∃g,a=some ⟨g,0,none⟩:=by
    rcases h.2 with ⟨e,e2⟩ | ⟨g,cap,cur,e,_⟩
    ·omega
    ·simp only [bD] at e;exact⟨g,e.1⟩
   subst hg
   have c1:=h.cells (g:=g) rfl j (.int .i64 (k:Int)) (by simp [kC,hk])
   rw [aP,aJ] at c1
   rw [hk]
   clear h hk
   go_enter Tryz.func96,Tryz.ntmps96
   go_wp2_with fail
   go_ret
   exact⟨rfl,rfl⟩
  ·have d1:decide ((l.length:Int)≤(j:Int))=true:=by simp;omega
   rw [bQ (by omega)]
   go_enter Tryz.func96,Tryz.ntmps96
   go_wp2_with fail
   go_ret
   exact⟨rfl,rfl⟩
theorem RY (h:Af Q (.slice (some ⟨g,0,none⟩) X.length cap) X w)(i:Nat)(hi:i≤1000000)(hX:X.length≤1000000) :
  Calls Tryz.prog 20 #[.pointer (some ⟨Q,0,none⟩),.int .i64 (i:Int)] w fun e w'=>e=.returned (.bool (lv (ms X) i).isSome)∧w'=w:=by
 have c0:=h.ptr
 cases hx:X[i]? with
 | none =>
  have hge:¬(i:Int) < (X.length:Int):=by have:=qy.1 hx;omega
  have e:(lv (ms X) i).isSome=false:=by unfold lv;rw [vS,hx];rfl
  rw [e]
  clear e
  go_enter Tryz.func20,Tryz.ntmps20
  go_wp2_with fail
  go_ret
  exact⟨rfl,rfl⟩
 | some x =>
  have hlt:(i:Int) < (X.length:Int):=by have:=(ai.1 hx).1;omega
  have c6:=h.cell hx 6 (by omega)
  simp only [qZ,fQ,fP] at c6
  cases hg:x.m.gone
  ·have e:(lv (ms X) i).isSome=true:=by unfold lv;rw [vS,hx];simp [hg]
   rw [hg] at c6
   rw [e]
   clear e h hx hg
   go_enter Tryz.func20,Tryz.ntmps20
   go_wp2_with fail
   go_ret
   exact⟨rfl,rfl⟩
  ·have e:(lv (ms X) i).isSome=false:=by unfold lv;rw [vS,hx];simp [hg]
   rw [hg] at c6
   rw [e]
   clear e h hx hg
   go_enter Tryz.func20,Tryz.ntmps20
   go_wp2_with fail
   go_ret
   exact⟨rfl,rfl⟩
theorem lU {i:Nat}{m:MN}(h:lv (ms X) i=some m):i < X.length:=by
 obtain⟨x,hx,_⟩:=qG h
 exact(ai.1 hx).1
theorem Af.FZ (h:Af Q (.slice (some ⟨g,0,none⟩) X.length cap) X w){i:Nat}{m:MN}(hi:lv (ms X) i=some m) :
  w.cell? ⟨g,i*7,none⟩=some (.int .i64 m.kind)∧w.cell? ⟨g,i*7+4,none⟩=some (.int .i64 (pI m.par)) ∧
   ∃a c,w.cell? ⟨g,i*7+5,none⟩=some (.slice a m.kids.length c)∧w.ownsRow 0 3 1 (.slice a m.kids.length c) m.kids.length (kC m.kids):=by
 obtain⟨x,hx,rfl,_⟩:=qG hi
 obtain⟨a,c,e⟩:=h.Lh (ah hx)
 refine⟨h.cell hx 0 (by omega),h.cell hx 4 (by omega),a,c,?_,?_⟩
 ·rw [h.cell hx 5 (by omega),← e];rfl
 ·rw [← e];exact h.kid x (ah hx)
theorem uu {a:Option Addr}{c:Nat}{l:List Nat}(h:w.ownsRow 0 3 1 (.slice a l.length c) l.length (kC l)){j k:Nat}(hk:l[j]? = some k):∃gk,a=some ⟨gk,0,none⟩∧w.cell? ⟨gk,j,none⟩=some (.int .i64 (k:Int)):=by
 have hl:=(ai.1 hk).1
 obtain⟨g,hg⟩:∃g,a=some ⟨g,0,none⟩:=by
  rcases h.2 with ⟨e,e2⟩ | ⟨g,cap,cur,e,_⟩
  ·omega
  ·simp only [bD] at e;exact⟨g,e.1⟩
 subst hg
 have c1:=h.cells (g:=g) rfl j (.int .i64 (k:Int)) (by simp [kC,hk])
 rw [aP,aJ] at c1
 exact⟨g,rfl,c1⟩
theorem FV (h:Af Q (.slice (some ⟨g,0,none⟩) X.length cap) X w){i p j:Nat}{m mp:MN}(hf:X.length≤100000)(hnd:mp.kids.Nodup)(hkl0:mp.kids.length≤100000)(hi:lv (ms X) i=some m)(hp:m.par=some p)(hmp:lv (ms X) p=some mp)(hj:mp.kids[j]? = some i) :
  Calls Tryz.prog 51 #[.pointer (some ⟨Q,0,none⟩),.int .i64 (i:Int)] w fun e w'=>e=.returned (.int .i64 (j:Int))∧w'=w:=by
 have c0:=h.ptr
 obtain⟨_,c4,_⟩:=h.FZ hi
 obtain⟨_,_,ka,kc,c5,ho⟩:=h.FZ hmp
 rw [hp] at c4
 have c4':w.cell? ⟨g,i*7+4,none⟩=some (.int .i64 (p:Int)):=c4
 have l1:=lU hi
 have l2:=lU hmp
 have hlj:=(ai.1 hj).1
 obtain⟨gk,rfl,_⟩:=uu ho hj
 have HK:=ae (fun(t:Nat) (k:Nat) (hk:mp.kids[t]? = some k)=>uu ho hk)
 have HN:=ae (fun(t k:Nat) (ht:t < j) (hk:mp.kids[t]? = some k)=>(show k≠i from fun e=>by
  subst e
  have:=(iK (i:=t) (j:=j) (by have:=(ai.1 hk).1;omega) hnd).1 (hk.trans hj.symm)
  omega))
 have hkl:mp.kids.length≤1000000000:=by omega
 clear c4 h hi hmp hnd ho hp
 go_enter Tryz.func51,Tryz.ntmps51
 go_wp2_with fail
 go_loopw [6] (fun iv wr=>∃t:Nat,t≤j∧iv=.int .i64 (t:Int)∧wr=w) (fun iv _=>j - iW iv)
 case atStart=>exact⟨0,by omega,rfl,rfl⟩
 case round =>
  obtain⟨t,ht,rfl,rfl⟩:=hrel
  have htl:(t:Int) < (mp.kids.length:Int):=by omega
  by_cases htj:t=j
  ·subst htj
   obtain⟨g2,e,ck⟩:=HK.out t i hj
   simp only [mY,yK,jX] at e
   subst e
   clear hj
   go_wp2_with fail
   go_ret
   exact⟨rfl,rfl⟩
  ·obtain⟨k,hk⟩:∃k,mp.kids[t]? = some k:=⟨_,ay (by omega)⟩
   obtain⟨g2,e,ck⟩:=HK.out t k hk
   simp only [mY,yK,jX] at e
   subst e
   have hne:=HN.out t k (by omega) hk
   have e1:((k:Int) == (i:Int))=false:=by simp;omega
   clear hj hk
   go_wp2_with fail
   exact⟨⟨t+1,by omega,by first | rfl | simp,by trivial⟩,by simp only [iW];omega⟩
theorem DU (h:Af Q (.slice (some ⟨g,0,none⟩) X.length cap) X w)(hW:MW (ms X) D){i p j:Nat}{m mp:MN}(hi:lv (ms X) i=some m)(hp:m.par=some p)(hmp:lv (ms X) p=some mp)(hj:mp.kids[j]? = some i) :
  Calls Tryz.prog 51 #[.pointer (some ⟨Q,0,none⟩),.int .i64 (i:Int)] w fun e w'=>e=.returned (.int .i64 (j:Int))∧w'=w :=
 FV h (aY X ▸ hW.few) (hW.nd p mp hmp) (by
  have:=qM X.length mp.kids (hW.nd p mp hmp) (fun k hk=>by obtain⟨mk,hmk,_⟩:=hW.kid p mp k hmp hk;exact lU hmk)
  have:=hW.few
  rw [aY] at this
  omega) hi hp hmp hj
def BR:Value→Int
 | .int _ n=>n
 | _=>0
theorem EK (h:Af Q (.slice (some ⟨g,0,none⟩) X.length cap) X w)(hW:MW (ms X) D)(a b:Nat)(ha:a≤1000000){mb:MN}(hb:lv (ms X) b=some mb) :
  Calls Tryz.prog 35 #[.pointer (some ⟨Q,0,none⟩),.int .i64 (a:Int),.int .i64 (b:Int)] w fun e w'=>e=.returned (.bool (oQ (ms X) a (D b) (some b)))∧w'=w:=by
 have c0:=h.ptr
 have hf:=(aY X ▸ hW.few)
 have HH:=ae h
 have HW:=ae hW
 have Hb:=ae hb
 clear h hW hb
 go_enter Tryz.func35,Tryz.ntmps35
 go_wp2_with fail
 go_loopw [2] (fun bv wr=>∃o:Option Nat,UO (ms X) o∧bv=.int .i64 (pI o)∧oQ (ms X) a (D b) (some b)=oQ (ms X) a (dO D o) o∧wr=w) (fun bv _=>if 0≤BR bv then D (BR bv).toNat else 0)
 case atStart=>exact⟨some b,fun i hi=>(by cases hi;exact⟨_,Hb.out⟩),rfl,rfl,rfl⟩
 case round =>
  obtain⟨o,hu,rfl,hE,rfl⟩:=hrel
  have HE:=ae hE
  cases o with
  | none =>
   have hE0:oQ (ms X) a (D b) (some b)=false:=hE
   have HE0:=ae hE0
   clear hE hE0 hu
   rw [show pI none=-1 from rfl]
   go_wp2_with fail
   go_ret
   exact⟨by rw [HE0.out];rfl,rfl⟩
  | some x =>
   obtain⟨mx,hx⟩:=hu x rfl
   have hxl:=lU hx
   obtain⟨_,c4,_⟩:=HH.out.FZ hx
   obtain⟨h1,h2⟩:=HW.out.up hx
   have hpos:=HW.out.Sm hx
   obtain⟨f,hfu⟩:∃f,D x=f+1:=⟨D x - 1,by omega⟩
   have hstep:oQ (ms X) a (D x) (some x)=(a == x || oQ (ms X) a (dO D mx.par) mx.par):=by
    rw [hfu]
    show(a == x || oQ (ms X) a f (PU (ms X) x))=_
    rw [MS hx,show f=dO D mx.par by omega]
   have HS:=ae (HE.out.trans (show oQ (ms X) a (dO D (some x)) (some x)=_ from hstep))
   rw [show pI (some x)=(x:Int) from rfl]
   clear hE hu hx hstep
   by_cases hax:a=x
   ·have e1:((a:Int) == (x:Int))=true:=by simp;omega
    have hres:oQ (ms X) a (D b) (some b)=true:=by rw [HS.out];simp [hax]
    have HRes:=ae hres
    clear hres
    go_wp2_with fail
    go_ret
    exact⟨by rw [HRes.out];rfl,rfl⟩
   ·have e1:((a:Int) == (x:Int))=false:=by simp;omega
    have hres:oQ (ms X) a (D b) (some b)=oQ (ms X) a (dO D mx.par) mx.par:=by
     rw [HS.out,eY.2 hax,iE]
    have HRes:=ae hres
    have H1:=ae h1
    clear hres h1
    go_wp2_with fail
    refine⟨⟨mx.par,H1.out,by first | rfl | trivial,HRes.out,by trivial⟩,?_⟩
    rw [aC (show 0≤BR (.int .i64 (x:Int)) by simp [BR])]
    cases e:mx.par with
    | none=>simp [pI,BR];omega
    | some q =>
     rw [e] at h2
     simp only [dO] at h2
     simp [pI,BR]
     omega
theorem DW (h:Af Q (.slice (some ⟨g,0,none⟩) X.length cap) X w)(hW:MW (ms X) D)(b:Nat){mb:MN}(hb:lv (ms X) b=some mb) :
  Calls Tryz.prog 94 #[.pointer (some ⟨Q,0,none⟩),.int .i64 (b:Int)] w fun e w'=>e=.returned (.int .i64 (D b:Int))∧w'=w:=by
 have c0:=h.ptr
 have hf:=(aY X ▸ hW.few)
 have hlow:=hW.low b mb hb
 have HH:=ae h
 have HW:=ae hW
 have Hb:=ae hb
 clear h hW hb
 go_enter Tryz.func94,Tryz.ntmps94
 go_wp2_with fail
 go_loopw [1,5] (fun bv nv wr=>∃(o:Option Nat) (n:Nat),UO (ms X) o∧bv=.int .i64 (pI o)∧nv=.int .i64 (n:Int)∧n+dO D o=D b∧wr=w) (fun bv _ _=>if 0≤BR bv then D (BR bv).toNat else 0)
 case atStart=>exact⟨some b,0,fun i hi=>(by cases hi;exact⟨_,Hb.out⟩),rfl,rfl,by simp [dO],rfl⟩
 case round =>
  obtain⟨o,n,hu,rfl,rfl,hE,rfl⟩:=hrel
  cases o with
  | none =>
   have hE0:n=D b:=by simpa [dO] using hE
   subst hE0
   clear hE hu
   rw [show pI none=-1 from rfl]
   go_wp2_with fail
   go_ret
   exact⟨rfl,rfl⟩
  | some x =>
   obtain⟨mx,hx⟩:=hu x rfl
   have hxl:=lU hx
   obtain⟨_,c4,_⟩:=HH.out.FZ hx
   obtain⟨h1,h2⟩:=HW.out.up hx
   have hE':n+D x=D b:=hE
   rw [show pI (some x)=(x:Int) from rfl]
   have H1:=ae h1
   clear hE hu hx h1
   go_wp2_with fail
   refine⟨⟨mx.par,n+1,H1.out,by first | rfl | trivial,by first | rfl | simp,by omega,by trivial⟩,?_⟩
   rw [aC (show 0≤BR (.int .i64 (x:Int)) by simp [BR])]
   cases e:mx.par with
   | none=>rw [e] at h2;simp [pI,BR];simp [dO] at h2;omega
   | some q =>
    rw [e] at h2
    simp only [dO] at h2
    simp [pI,BR]
    omega
end
def kM (X:List MN)(i:Nat):List Nat:=match lv X i with | some m=>m.kids | none=>[]
theorem qQ {X:List MN}{i:Nat}{m:MN}(h:lv X i=some m):kM X i=m.kids:=by unfold kM;rw [h]
theorem MW.Lj {X:List MN}{D:Nat→Nat}(hW:MW X D){p:Nat}{mp:MN}(h:lv X p=some mp):mp.kids.length≤100000:=by
 have:=qM X.length mp.kids (hW.nd p mp h) (fun k hk=>by obtain⟨mk,hmk,_⟩:=hW.kid p mp k h hk;exact(ai.1 (lV hmk).1).1)
 have:=hW.few
 omega
section
variable {Q g cap : Nat} {X : List MX} {D : Nat → Nat}
theorem Bv (hW:MW (ms X) D):∀(f i:Nat) (m:MN),lv (ms X) i=some m→128 - D i=f→∀w,Af Q (.slice (some ⟨g,0,none⟩) X.length cap) X w →
  Calls Tryz.prog 95 #[.pointer (some ⟨Q,0,none⟩),.int .i64 (i:Int)] w fun e w'=>e=.returned (.int .i64 (hgt (kM (ms X)) f i:Int))∧w'=w:=by
 intro f
 induction f using Nat.strongRecOn with
 | ind f ih =>
  intro i m hi hf w h
  have c0:=h.ptr
  have hXl:=(aY X ▸ hW.few)
  obtain⟨_,_,ka,kc,c5,ho⟩:=h.FZ hi
  have l1:=lU hi
  have hkl:=hW.Lj hi
  have hlow:=hW.low i m hi
  have hpos:=hW.Sm hi
  have hkM:=qQ hi
  -- a child's height
  have HC:=ae (fun(k:Nat) (hk:k∈m.kids) (wx:World) (hx:Af Q (.slice (some ⟨g,0,none⟩) X.length cap) X wx)=>(show
    Calls Tryz.prog 95 #[.pointer (some ⟨Q,0,none⟩),.int .i64 (k:Int)] wx fun e w'=>e=.returned (.int .i64 (hgt (kM (ms X)) (f - 1) k:Int))∧w'=wx from by
   obtain⟨mk,hmk,hpk⟩:=hW.kid i m k hi hk
   obtain⟨mi,hmi,_,hd⟩:=hW.par k mk i hmk hpk
   have hlk:=hW.low k mk hmk
   exact ih (f - 1) (by omega) k mk hmk (by omega) wx hx))
  have hE:hgt (kM (ms X)) f i=(m.kids.foldl (fun a k=>max a (hgt (kM (ms X)) (f - 1) k)) 0)+1:=by
   cases f with
   | zero =>
    have hk0:m.kids=[]:=by
     cases hk:m.kids with
     | nil=>rfl
     | cons k t =>
      obtain⟨mk,hmk,hpk⟩:=hW.kid i m k hi (by rw [hk];simp)
      obtain⟨mi,hmi,_,hd⟩:=hW.par k mk i hmk hpk
      have:=hW.low k mk hmk
      omega
    rw [hk0];rfl
   | succ f =>
    show(kM (ms X) i).foldl (fun a k=>max a (hgt (kM (ms X)) f k)) 0+1=_
    rw [hkM];rfl
  have HE:=ae hE
  have HG:=ae (fun(t:Nat) (k:Nat) (hk:m.kids[t]? = some k)=>uu ho hk)
  have HB:=ae (fun t=>oI (fun k=>hgt (kM (ms X)) (f - 1) k) 129 (m.kids.take t) 0 (by omega) (fun k hk=>by
   have:=ql (kM (ms X)) (f - 1) k
   omega))
  have HH:=ae h
  clear hE h ih ho hkM
  go_enter Tryz.func95,Tryz.ntmps95
  go_wp2_with fail
  go_loopw [5,6] (fun nv iv wr=>∃t:Nat,t≤m.kids.length∧iv=.int .i64 (t:Int)∧nv=.int .i64 (((m.kids.take t).foldl (fun a k=>max a (hgt (kM (ms X)) (f - 1) k)) 0:Nat):Int)∧wr=w) (fun _ iv _=>m.kids.length - iW iv)
  case atStart=>exact⟨0,by omega,rfl,rfl,rfl⟩
  case round =>
   obtain⟨t,ht,rfl,rfl,rfl⟩:=hrel
   by_cases htl:t < m.kids.length
   ·obtain⟨k,hk⟩:∃k,m.kids[t]? = some k:=⟨_,ay htl⟩
    obtain⟨gk,rfl,ck⟩:=HG.out t k hk
    have hb:=HB.out t
    have HK:=ae (HC.out k (ah hk) _ HH.out)
    have hstep:(m.kids.take (t+1)).foldl (fun a k=>max a (hgt (kM (ms X)) (f - 1) k)) 0=max ((m.kids.take t).foldl (fun a k=>max a (hgt (kM (ms X)) (f - 1) k)) 0) (hgt (kM (ms X)) (f - 1) k):=by
     rw [fJ,hk,List.foldl_append];rfl
    have HS:=ae hstep
    have hkb:=ql (kM (ms X)) (f - 1) k
    generalize hgt (kM (ms X)) (f - 1) k=y at *
    clear hstep hk
    generalize (m.kids.take t).foldl (fun a k=>max a (hgt (kM (ms X)) (f - 1) k)) 0=z at *
    have hmx:max (z:Int) (y:Int)=((max z y:Nat):Int):=by omega
    go_wp2_with fail
    refine HK.out.mono ?_
    rintro e wz ⟨rfl,hw⟩
    subst wz
    go_wp2_with fail
    exact⟨⟨t+1,by omega,by first | rfl | simp,by rw [HS.out];first | done | rfl | (simp [hmx]),by trivial⟩,by simp only [iW];omega⟩
   ·obtain rfl:t=m.kids.length:=by omega
    have hb:=HB.out m.kids.length
    rw [dE] at hb ⊢
    have HE':=HE.out
    generalize m.kids.foldl (fun a k=>max a (hgt (kM (ms X)) (f - 1) k)) 0=z at *
    have HE2:=ae HE'
    clear HE HE'
    go_wp2_with fail
    go_ret
    exact⟨by rw [HE2.out];first | done | rfl | simp,rfl⟩
def vW (M:List MN)(h k:Nat):Bool:=k != h && (match lv M k with | some m=>m.kind == 2 | none=>false)
def zt (M:List MN)(D:Nat→Nat)(p h:Nat)(mp mh:MN):Bool :=
 if h=0∨oQ M h (D p) (some p)=true then false
 else if mp.kind=2 then true
 else if p≠0∨mh.kind=3 then false
 else !(mp.kids.any fun k=>vW M h k && mh.kind == 2)
theorem uj {w:World}(h:Af Q (.slice (some ⟨g,0,none⟩) X.length cap) X w)(hW:MW (ms X) D)(p c:Nat){mp mc:MN}(hp:lv (ms X) p=some mp)(hc:lv (ms X) c=some mc) :
  Calls Tryz.prog 93 #[.pointer (some ⟨Q,0,none⟩),.int .i64 (p:Int),.int .i64 (c:Int)] w fun e w'=>e=.returned (.bool (zt (ms X) D p c mp mc))∧w'=w:=by
 have c0:=h.ptr
 have hXl:=(aY X ▸ hW.few)
 obtain⟨p0,_,ka,kc,p5,ho⟩:=h.FZ hp
 obtain⟨k0,_,_⟩:=h.FZ hc
 have l1:=lU hp
 have l2:=lU hc
 have hkl:=hW.Lj hp
 have HCt:=ae (EK h hW c p (by omega) hp)
 have HG:=ae (fun(t:Nat) (k:Nat) (hk:mp.kids[t]? = some k)=>uu ho hk)
 have HK:=ae (fun(k:Nat) (hk:k∈mp.kids)=>(show ∃mk,lv (ms X) k=some mk∧w.cell? ⟨g,k*7,none⟩=some (.int .i64 mk.kind) from by
  obtain⟨mk,hmk,_⟩:=hW.kid p mp k hp hk
  exact⟨mk,hmk,(h.FZ hmk).1⟩))
 unfold zt
 clear h ho
 by_cases q0:c=0
 ·rw [aC (.inl q0)]
  have e0:((c:Int) == 0)=true:=by simp;omega
  go_enter Tryz.func93,Tryz.ntmps93
  go_wp2_with fail
  go_ret
  exact⟨rfl,rfl⟩
 have e0:((c:Int) == 0)=false:=by simp;omega
 cases q1:oQ (ms X) c (D p) (some p)
 case true =>
  rw [aC (.inr rfl)]
  rw [q1] at HCt
  clear q0
  go_enter Tryz.func93,Tryz.ntmps93
  go_wp2_with fail
  refine HCt.out.mono ?_
  rintro e wz ⟨rfl,hw⟩
  subst wz
  go_wp2_with fail
  go_ret
  exact⟨rfl,rfl⟩
 rw [ax (by rintro(e | e);exact q0 e;cases e)]
 rw [q1] at HCt
 by_cases q2:mp.kind=2
 ·rw [aC q2]
  rw [q2] at p0
  clear q0 q2
  go_enter Tryz.func93,Tryz.ntmps93
  go_wp2_with fail
  refine HCt.out.mono ?_
  rintro e wz ⟨rfl,hw⟩
  subst wz
  go_wp2_with fail
  go_ret
  exact⟨rfl,rfl⟩
 rw [ax q2]
 have e2:(mp.kind == 2)=false:=by simpa using q2
 by_cases q3:p=0
 case neg =>
  rw [aC (.inl q3)]
  have e3:((p:Int) != 0)=true:=by simp;omega
  clear q0 q2 q3
  go_enter Tryz.func93,Tryz.ntmps93
  go_wp2_with fail
  refine HCt.out.mono ?_
  rintro e wz ⟨rfl,hw⟩
  subst wz
  go_wp2_with fail
  go_ret
  exact⟨rfl,rfl⟩
 subst q3
 by_cases q4:mc.kind=3
 ·rw [aC (.inr q4)]
  rw [q4] at k0
  clear q0 q2 q4
  go_enter Tryz.func93,Tryz.ntmps93
  go_wp2_with fail
  refine HCt.out.mono ?_
  rintro e wz ⟨rfl,hw⟩
  subst wz
  go_wp2_with fail
  go_ret
  exact⟨rfl,rfl⟩
 rw [ax (by rintro(e | e);exact e rfl;exact q4 e)]
 have e4:(mc.kind == 3)=false:=by simpa using q4
 rw [uS] at p0
 have p5':w.cell? ⟨g,5,none⟩=some (.slice ka mp.kids.length kc):=by rw [uS,aJ] at p5;exact p5
 clear q0 q2 q4 p5
 have hq1:(↑(0:Nat):Int)=0:=rfl
 go_enter Tryz.func93,Tryz.ntmps93
 go_wp2_with fail
 refine HCt.out.mono ?_
 rintro e wz ⟨rfl,hw⟩
 subst wz
 go_wp2_with fail
 go_loopw [7,8] (fun iv _ wr=>∃t:Nat,t≤mp.kids.length∧iv=.int .i64 (t:Int)∧((mp.kids.take t).any fun k=>vW (ms X) c k && mc.kind == 2)=false∧wr=w) (fun iv _ _=>mp.kids.length - iW iv)
 case atStart=>exact⟨0,by omega,rfl,rfl,rfl⟩
 case round =>
  obtain⟨t,ht,rfl,hany,rfl⟩:=hrel
  have HA:=ae hany
  clear hany
  by_cases htl:t < mp.kids.length
  ·obtain⟨k,hk⟩:∃k,mp.kids[t]? = some k:=⟨_,ay htl⟩
   obtain⟨gk,rfl,ck⟩:=HG.out t k hk
   obtain⟨mk,hmk,ckk⟩:=HK.out k (ah hk)
   have lk:=lU hmk
   have hstep:((mp.kids.take (t+1)).any fun k=>vW (ms X) c k && mc.kind == 2)=(vW (ms X) c k && mc.kind == 2):=by
    rw [fJ,hk,List.any_append,HA.out];simp
   have hel:vW (ms X) c k=(k != c && mk.kind == 2):=by unfold vW;rw [hmk]
   rw [hel] at hstep
   have hmem:=ah hk
   have hany2:(vW (ms X) c k && mc.kind == 2)=true→(mp.kids.any fun k=>vW (ms X) c k && mc.kind == 2)=true:=fun e=>WZ.2 ⟨k,hmem,e⟩
   rw [hel] at hany2
   have HS:=ae hstep
   have HY:=ae hany2
   clear hstep hany2 hk hmk hel hmem
   by_cases r0:k=c
   ·have f0:((k:Int) != (c:Int))=false:=by simp;omega
    have hz:(k != c)=false:=by simpa using r0
    have HN:=ae (HS.out.trans (by rw [hz];first | done | rfl))
    clear hz
    go_wp2_with fail
    exact⟨⟨t+1,by omega,by first | rfl | simp,HN.out,by trivial⟩,by simp only [iW];omega⟩
   ·have f0:((k:Int) != (c:Int))=true:=by simp;omega
    have hz:(k != c)=true:=by simpa using r0
    by_cases r1:mk.kind=2
    ·have f1:(mk.kind == 2)=true:=by simpa using r1
     by_cases r2:mc.kind=2
     ·have f2:(mc.kind == 2)=true:=by simpa using r2
      have hres:=HY.out (by rw [hz,f1,f2];rfl)
      have HRes:=ae hres
      clear hz r0 r1 r2 hres
      go_wp2_with fail
      go_ret
      exact⟨by rw [HRes.out];rfl,rfl⟩
     ·have f2:(mc.kind == 2)=false:=by simpa using r2
      have HN:=ae (HS.out.trans (by rw [f2,Xv]))
      clear hz r0 r1 r2
      go_wp2_with fail
      exact⟨⟨t+1,by omega,by first | rfl | simp,HN.out,by trivial⟩,by simp only [iW];omega⟩
    ·have f1:(mk.kind == 2)=false:=by simpa using r1
     have HN:=ae (HS.out.trans (by rw [f1,Xv,uM]))
     clear hz r0 r1
     go_wp2_with fail
     exact⟨⟨t+1,by omega,by first | rfl | simp,HN.out,by trivial⟩,by simp only [iW];omega⟩
  ·obtain rfl:t=mp.kids.length:=by omega
   have hany:=HA.out
   rw [dE] at hany
   have HRes:=ae hany
   clear hany
   go_wp2_with fail
   go_ret
   exact⟨by rw [HRes.out];rfl,rfl⟩
theorem FW {w:World}(h:Af Q (.slice (some ⟨g,0,none⟩) X.length cap) X w)(hf:X.length≤100000)(i:Nat){x:MX}(hx:X[i]? = some x)(hl:x.m.attrs.length≤100000)(nm:List UInt8) :
  Calls Tryz.prog 98 #[.pointer (some ⟨Q,0,none⟩),.int .i64 (i:Int),dA nm] w fun e w'=>e=.returned (.int .i64 (mJ x.m.attrs nm))∧w'=w:=by
 have c0:=h.ptr
 have l1:=(ai.1 hx).1
 obtain⟨aa,ac,hav⟩:=h.Ip (ah hx)
 have c2:=h.cell hx 2 (by omega)
 simp only [qZ,fQ,fP] at c2
 have ho:=h.sF x (ah hx)
 rw [hav] at c2 ho
 have HG:=ae (fun(t:Nat) (y:jR) (hy:x.m.attrs[t]? = some y)=>(show ∃ga,aa=some ⟨ga,0,none⟩∧w.cell? ⟨ga,t*2,none⟩=some (.string ⟨y.1.toArray⟩) from by
  have hlt:=(ai.1 hy).1
  obtain⟨ga,hga⟩:∃g,aa=some ⟨g,0,none⟩:=by
   rcases ho.2 with ⟨e,e2⟩ | ⟨g,cap,cur,e,_⟩
   ·omega
   ·simp only [bD] at e;exact⟨g,e.1⟩
  subst hga
  have:=ho.cells (g:=ga) rfl (2*t) _ (kz _ t y hy).1
  rw [aP,aJ] at this
  exact⟨ga,rfl,by rw [uT];exact this⟩))
 have HEQ:=ae (fun a b:List UInt8=>str_eq a b)
 have HN1:=ae (fun(k:Nat) (y:jR) (hk:x.m.attrs[k]? = some y) (hy:y.1=nm) h=>FO hk hy h)
 have HN2:=ae (fun h=>FP (l:=x.m.attrs) (x:=nm) h)
 unfold dA
 clear h ho hx
 go_enter Tryz.func98,Tryz.ntmps98
 go_wp2_with fail
 go_loopw [7] (fun iv wr=>∃t:Nat,t≤x.m.attrs.length∧iv=.int .i64 (t:Int)∧(∀j z,j < t→x.m.attrs[j]? = some z→z.1≠nm)∧wr=w) (fun iv _=>x.m.attrs.length - iW iv)
 case atStart=>exact⟨0,by omega,rfl,fun j z hj=>absurd hj (by omega),rfl⟩
 case round =>
  obtain⟨t,ht,rfl,hno,rfl⟩:=hrel
  have HNo:=ae hno
  clear hno
  by_cases htl:t < x.m.attrs.length
  ·obtain⟨y,hy⟩:∃y,x.m.attrs[t]? = some y:=⟨_,ay htl⟩
   obtain⟨ga,rfl,ca⟩:=HG.out t y hy
   have heq:=HEQ.out y.1 nm
   have HY:=ae hy
   clear hy
   generalize hs1:(⟨y.1.toArray⟩:ByteArray)=s1 at *
   generalize (⟨nm.toArray⟩:ByteArray)=s2 at *
   by_cases hyn:y.1=nm
   ·rw [dZ hyn] at heq
    have HRes:=ae (HN1.out _ _ HY.out hyn (fun j z hj hz=>HNo.out j z hj hz))
    clear hyn
    go_wp2_with fail
    go_ret
    exact⟨by rw [HRes.out];rfl,rfl⟩
   ·rw [eP hyn] at heq
    have HN:=ae (show ∀j z,j < t+1→x.m.attrs[j]? = some z→z.1≠nm from fun j z hj hz=>by
     by_cases e:j=t
     ·subst e;rw [HY.out] at hz;cases hz;exact hyn
     ·exact HNo.out j z (by omega) hz)
    clear hyn
    go_wp2_with fail
    exact⟨⟨t+1,by omega,by first | rfl | simp,HN.out,by trivial⟩,by simp only [iW];omega⟩
  ·obtain rfl:t=x.m.attrs.length:=by omega
   have HRes:=ae (HN2.out (fun j z hz=>HNo.out j z (ai.1 hz).1 hz))
   go_wp2_with fail
   go_ret
   exact⟨by rw [HRes.out];rfl,rfl⟩
end
structure jC (Q:Nat) (nv:Value) (X:List MX) (w:World):Prop where
 W:Af Q nv X w
 OM:∀(i j:Nat) (x y:MX) (b:Nat),i≠j→X[i]? = some x→X[j]? = some y→x.av.ownBlock=some b→y.av.ownBlock≠some b
 OY:∀(i j:Nat) (x y:MX) (b:Nat),i≠j→X[i]? = some x→X[j]? = some y→x.kv.ownBlock=some b→y.kv.ownBlock≠some b
def Tj (Q:Nat)(nv:Value)(X:List MX)(k:Nat):Prop:=k=Q∨nv.ownBlock=some k∨∃x∈X,x.av.ownBlock=some k∨x.kv.ownBlock=some k
theorem jC.below {Q:Nat}{nv:Value}{X:List MX}{w w':World}(h:jC Q nv X w)(hb:Below w.heap.size w w'):jC Q nv X w':=⟨h.W.below hb,h.OM,h.OY⟩
theorem dF {w:World}{e size n b:Nat}{v:Value}{xs:List Value}(h:Own w e size v n xs)(hb:v.ownBlock=some b):∃cur,w.heap[b]? = some (.cells cur e (0,0)):=gJ h hb
def ui (Q:Nat)(nv:Value)(X:List MX):Ob where
 P:=fun w=>jC Q nv X w
 F:=Tj Q nv X
 here:=fun w h k hk=>by
  rcases hk with rfl | hk | ⟨x,hx,hk | hk⟩
  ·exact h.W.blk.lt
  ·exact jy h.W.row hk
  ·exact jy (h.W.sF x hx) hk
  ·exact jy (h.W.kid x hx) hk
 loc:=fun w w' h k=>⟨⟨h.W.blk.kept (k Q (.inl rfl)),iO h.W.row (fun b hb=>k b (.inr (.inl hb))),fun x hx=>iO (h.W.sF x hx) (fun b hb=>k b (.inr (.inr ⟨x,hx,.inl hb⟩))),fun x hx=>iO (h.W.kid x hx) (fun b hb=>k b (.inr (.inr ⟨x,hx,.inr hb⟩)))⟩,h.OM,h.OY⟩
structure fU (Q:Nat) (nv:Value) (X:List MX) (w:World) (nv':Value) (X':List MX) (w':World):Prop where
 at_:jC Q nv' X' w'
 qU:dU (Tj Q nv X) w w'
 new:∀k,Tj Q nv' X' k→Tj Q nv X k∨w.heap.size≤k
theorem fU.refl {Q:Nat}{nv:Value}{X:List MX}{w w':World}(h:jC Q nv X w)(hb:Below w.heap.size w w'):fU Q nv X w nv X w':=⟨h.below hb,dU.of_below hb,fun k hk=>.inl hk⟩
theorem fU.trans {Q:Nat}{nv nv1 nv2:Value}{X X1 X2:List MX}{w w1 w2:World}(h:fU Q nv X w nv1 X1 w1)(k:fU Q nv1 X1 w1 nv2 X2 w2):fU Q nv X w nv2 X2 w2 :=
 ⟨k.at_,h.qU.trans k.qU (fun i hi hf=>by rcases h.new i hf with h1 | h1;exact h1;omega),fun i hi=>by
  rcases k.new i hi with h1 | h1
  ·exact h.new i h1
  ·exact .inr (aQ h.qU.size h1)⟩
theorem fU.still {Q:Nat}{nv nv1:Value}{X X1:List MX}{w w1 w2:World}(h:fU Q nv X w nv1 X1 w1)(hb:Below w1.heap.size w1 w2):fU Q nv X w nv1 X1 w2:=h.trans (fU.refl h.at_ hb)
theorem fU.all {Q:Nat}{nv nv1:Value}{X X1:List MX}{B:Nat}{w0 w w1:World}{l:List Ob}(h:fU Q nv X w nv1 X1 w1)(hA:All B w0 (ui Q nv X :: l) w):All B w0 (ui Q nv1 X1 :: l) w1 :=
 hA.step [] (o':=ui Q nv1 X1) h.at_ h.qU h.new
theorem jC.put {Q g cap i j:Nat}{X:List MX}{w:World}{x:MX}(h:jC Q (.slice (some ⟨g,0,none⟩) X.length cap) X w)(hi:X[i]? = some x)(x':MX)(u:Value)(hj:j < 7)(hx:qZ x'=(qZ x).set j u)
  (ha:Own w 92 2 x'.av x'.m.attrs.length (cu x'.m.attrs))(hk:Own w 3 1 x'.kv x'.m.kids.length (kC x'.m.kids))
  (fa:x'.av.ownBlock=x.av.ownBlock∨∀b,x'.av.ownBlock=some b→∀y∈X,y.av.ownBlock≠some b)
  (fk:x'.kv.ownBlock=x.kv.ownBlock∨∀b,x'.kv.ownBlock=some b→∀y∈X,y.kv.ownBlock≠some b) :
  jC Q (.slice (some ⟨g,0,none⟩) X.length cap) (X.set i x') (w.setCell ⟨g,i*7+j,none⟩ u):=by
 have hil:=(ai.1 hi).1
 obtain⟨cg,hg⟩:=dF h.W.row (b:=g) rfl
 have oth:∀{e size n:Nat} {v:Value} {xs:List Value},Own w e size v n xs→e≠81→Own (w.setCell ⟨g,i*7+j,none⟩ u) e size v n xs:=fun {e size n v xs} ho hne=>iO ho (fun b hb=>by
  refine aF _ _ _ _ (fun e2=>?_)
  obtain⟨cur,hc⟩:=dF ho hb
  rw [show b=g from e2,hg] at hc
  cases hc
  exact hne rfl)
 have hget:∀k y,(X.set i x')[k]? = some y→(k=i∧y=x')∨(k≠i∧X[k]? = some y):=fun k y hk=>by
  rw [dH] at hk
  by_cases e:i=k
  ·subst e;rw [aC rfl,aC hil] at hk;cases hk;exact .inl ⟨rfl,rfl⟩
  ·rw [ax e] at hk;exact .inr ⟨fun e2=>e e2.symm,hk⟩
 have hmem:∀y∈X.set i x',y=x'∨y∈X:=fun y hy=>by
  obtain⟨k,hk⟩:=aI.1 hy
  rcases hget k y hk with ⟨_,e⟩ | ⟨_,e⟩
  ·exact .inl e
  ·exact .inr (ah e)
 refine⟨⟨?_,?_,?_,?_⟩,?_,?_⟩
 ·refine h.W.blk.setOther ⟨g,i*7+j,none⟩ (fun e=>?_) u
  have:=h.W.blk
  have e2:w.heap[Q]? = _:=this
  rw [show Q=g from e,hg] at e2
  cases e2
 ·rw [dI,tK wP X i j x x' u hi hj hx]
  exact tZ h.W.row (i*7+j) u
 ·intro y hy
  rcases hmem y hy with rfl | hy
  ·exact oth ha (by decide)
  ·exact oth (h.W.sF y hy) (by decide)
 ·intro y hy
  rcases hmem y hy with rfl | hy
  ·exact oth hk (by decide)
  ·exact oth (h.W.kid y hy) (by decide)
 ·intro a c p q b hac hp hq hb
  rcases hget a p hp with ⟨rfl,rfl⟩ | ⟨e1,hp'⟩
  ·rcases hget c q hq with ⟨e2,_⟩ | ⟨e2,hq⟩
   ·exact absurd e2.symm hac
   ·rcases fa with e | e
    ·exact h.OM a c x q b hac hi hq (e ▸ hb)
    ·exact e b hb q (ah hq)
  ·rcases hget c q hq with ⟨e2,rfl⟩ | ⟨e2,hq⟩
   ·subst e2
    rcases fa with e | e
    ·rw [e];exact h.OM a c p x b hac hp' hi hb
    ·exact fun e3=>e b e3 p (ah hp') hb
   ·exact h.OM a c p q b hac hp' hq hb
 ·intro a c p q b hac hp hq hb
  rcases hget a p hp with ⟨rfl,rfl⟩ | ⟨e1,hp'⟩
  ·rcases hget c q hq with ⟨e2,_⟩ | ⟨e2,hq⟩
   ·exact absurd e2.symm hac
   ·rcases fk with e | e
    ·exact h.OY a c x q b hac hi hq (e ▸ hb)
    ·exact e b hb q (ah hq)
  ·rcases hget c q hq with ⟨e2,rfl⟩ | ⟨e2,hq⟩
   ·subst e2
    rcases fk with e | e
    ·rw [e];exact h.OY a c p x b hac hp' hi hb
    ·exact fun e3=>e b e3 p (ah hp') hb
   ·exact h.OY a c p q b hac hp' hq hb
theorem jC.snoc {Q:Nat}{nv nv':Value}{X:List MX}{w w':World}(h:jC Q nv X w)(x:MX)(hc:dU (fun k=>k=Q∨nv.ownBlock=some k) w w')(hb:dD w' Q [nv'] 84)(hr:Own w' 81 7 nv' (X.length+1) (rows qZ X ++ qZ x))
  (ha:Own w' 92 2 x.av x.m.attrs.length (cu x.m.attrs))(hk:Own w' 3 1 x.kv x.m.kids.length (kC x.m.kids))(fa:∀b,x.av.ownBlock=some b→∀y∈X,y.av.ownBlock≠some b)(fk:∀b,x.kv.ownBlock=some b→∀y∈X,y.kv.ownBlock≠some b) :
  jC Q nv' (X ++ [x]) w':=by
 have hQ:w.heap[Q]? = some (.cells #[nv] 84 (0,0)):=h.W.blk
 have oth:∀{e size n:Nat} {v:Value} {xs:List Value},Own w e size v n xs→e≠81→e≠84→Own w' e size v n xs:=fun {e size n v xs} ho h1 h2=>iO ho (fun b hb=>by
  obtain⟨cur,hcur⟩:=dF ho hb
  refine hc.block b (gp hcur) ?_
  rintro(rfl | e2)
  ·rw [hQ] at hcur;cases hcur;exact h2 rfl
  ·obtain⟨cur2,h3⟩:=dF h.W.row e2
   rw [hcur] at h3;cases h3;exact h1 rfl)
 have hget:∀k y,(X ++ [x])[k]? = some y→(k=X.length∧y=x)∨X[k]? = some y:=fun k y hk=>by
  by_cases e:k < X.length
  ·rw [di e] at hk;exact .inr hk
  ·rw [bZ (by omega)] at hk
   have:=(ai.1 hk).1
   have e2:k - X.length=0:=by simp at this;omega
   rw [e2] at hk
   simp at hk
   exact .inl ⟨by omega,hk.symm⟩
 refine⟨⟨hb,?_,?_,?_⟩,?_,?_⟩
 ·rw [aA,List.length_singleton,wJ];exact hr
 ·intro y hy
  rcases cZ.1 hy with hy | hy
  ·exact oth (h.W.sF y hy) (by decide) (by decide)
  ·simp at hy;subst hy;exact ha
 ·intro y hy
  rcases cZ.1 hy with hy | hy
  ·exact oth (h.W.kid y hy) (by decide) (by decide)
  ·simp at hy;subst hy;exact hk
 ·intro a c p q b hac hp hq hb'
  rcases hget a p hp with ⟨e1,rfl⟩ | hp'
  ·rcases hget c q hq with ⟨e2,_⟩ | hq
   ·omega
   ·exact fa b hb' q (ah hq)
  ·rcases hget c q hq with ⟨e2,rfl⟩ | hq
   ·exact fun e3=>fa b e3 p (ah hp') hb'
   ·exact h.OM a c p q b hac hp' hq hb'
 ·intro a c p q b hac hp hq hb'
  rcases hget a p hp with ⟨e1,rfl⟩ | hp'
  ·rcases hget c q hq with ⟨e2,_⟩ | hq
   ·omega
   ·exact fk b hb' q (ah hq)
  ·rcases hget c q hq with ⟨e2,rfl⟩ | hq
   ·exact fun e3=>fk b e3 p (ah hp') hb'
   ·exact h.OY a c p q b hac hp' hq hb'
theorem bU {P:Program}{t e:TypeId}{size bytes:Nat}(hT:ET P t e size bytes){B:Nat}{w0 w:World}(l1:List Ob){l2:List Ob}{dv:Value}{n:Nat}{xs:List Value}
  (h:All B w0 (l1 ++ sl e size dv n xs :: l2) w){ad:Addr}{m c:Nat}{ys:List Value}(hl:ys.length=m*size)(hs:∀j u,ys[j]? = some u→w.cell? (ad.add j)=some u)(h1:∀u∈ys,u.oneCell'=true)(hlen:n+m≤1000000000)(hby:bytes≤1000)
  {ops:Array Oper}{E:Prop}{o:Oper}{a:Act}{K:Act→World→Prop}{Q:Exit→Act→World→Prop}(hgd:o.guard=none)(s x:Operand)(ho:o.op=.call { callee:=.builtin .append,args:=#[s,x],argTypes:=#[t,t] })(hd:a.eval s=dv)(hx:a.eval x=.slice (some ad) m c)
  (hc:∀v' w',All B w0 (l1 ++ sl e size v' (n+m) (xs ++ ys) :: l2) w'→(v'.ownBlock=dv.ownBlock∨v'.ownBlock=some w.heap.size)→K (a.put o.dst v') w'):if Region.wanted o (yielded ops a.tmps)=true then Oper.wp P o a w K Q else E:=by
 have hw:Region.wanted o (yielded ops a.tmps)=true:=by simp [Region.wanted,hgd]
 rw [aC hw]
 obtain⟨i,z,hi,hz0,hz1,hz2,hz3⟩:=hT.info
 have hown:Own w e size dv n xs:=h.mid
 have hmul:(n+m)*bytes≤1000000000*1000:=WR hlen hby
 obtain⟨v',w',hr,h2,h3,_,h5⟩:=ve (P:=P) w 0 t o.type e i z size bytes hT.under hi hz0 hz1 hz2 hz3 hT.pos dv n xs hown ad m c ys hl hs h1 (by unfold maxLen;omega) (by omega) (aZ _)
 unfold Oper.wp execOp
 simp only [ho,resolve,invoke,builtin,WU,Sem.run_pure,Result.andThen_ok,vk,fE,jZ,hd,hx,hr]
 refine hc v' w' (h.step l1 (o':=sl e size v' (n+m) (xs ++ ys)) h2 ((dU.refl _ _).grown h3 (fun k hk _=>hk)) ?_) h5
 intro k hk
 have hk':v'.ownBlock=some k:=hk
 rcases h5 with h5 | h5
 ·exact .inl (show dv.ownBlock=some k by rw [← h5];exact hk')
 ·right
  rw [h5] at hk'
  have:=cO hk'
  omega
end Go.Proofs.YtfelmdkeaacfeaaGreatDoor.W
end
