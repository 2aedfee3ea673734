/- Texts joined: MrB Mo. -/
import Derived.Test.YtfelmdkeaacfeaaGreatDoorTM1
import Derived.Test.YtfelmdkeaacfeaaGreatDoorTM14
import Derived.Test.YtfelmdkeaacfeaaGreatDoorTM7
set_option maxRecDepth 100000
set_option maxHeartbeats 40000000
set_option linter.unusedVariables false
set_option linter.unusedSimpArgs false
section
namespace Go.Proofs.YtfelmdkeaacfeaaGreatDoor.W
open Go.RowKit
def kM (X:List MN)(i:Nat):List Nat:=match lv X i with | some m=>m.kids | none=>[]
theorem kM_of {X:List MN}{i:Nat}{m:MN}(h:lv X i=some m):kM X i=m.kids:=by unfold kM;rw [h]
theorem MW.klen {X:List MN}{D:Nat→Nat}(hW:MW X D){p:Nat}{mp:MN}(h:lv X p=some mp):mp.kids.length≤100000:=by
 have:=nodup_len X.length mp.kids (hW.nd p mp h) (fun k hk=>by obtain⟨mk,hmk,_⟩:=hW.kid p mp k h hk;exact(List.getElem?_eq_some_iff.1 (lv_at hmk).1).1)
 have:=hW.few
 omega
section
variable {Q g cap : Nat} {X : List MX} {D : Nat → Nat}
theorem mheight_any (hW:MW (ms X) D):∀(f i:Nat) (m:MN),lv (ms X) i=some m→128 - D i=f→∀w,MdW Q (.slice (some ⟨g,0,none⟩) X.length cap) X w →
  Calls Tryz.prog 95 #[.pointer (some ⟨Q,0,none⟩),.int .i64 (i:Int)] w fun e w'=>e=.returned (.int .i64 (hgt (kM (ms X)) f i:Int))∧w'=w:=by
 intro f
 induction f using Nat.strongRecOn with
 | ind f ih =>
  intro i m hi hf w h
  have c0:=h.ptr
  have hXl:=(ms_len X ▸ hW.few)
  obtain⟨_,_,ka,kc,c5,ho⟩:=h.lvc hi
  have l1:=lv_lt hi
  have hkl:=hW.klen hi
  have hlow:=hW.low i m hi
  have hpos:=hW.dpos hi
  have hkM:=kM_of hi
  -- a child's height
  have HC:=Lib.hid (fun(k:Nat) (hk:k∈m.kids) (wx:World) (hx:MdW Q (.slice (some ⟨g,0,none⟩) X.length cap) X wx)=>(show
    Calls Tryz.prog 95 #[.pointer (some ⟨Q,0,none⟩),.int .i64 (k:Int)] wx fun e w'=>e=.returned (.int .i64 (hgt (kM (ms X)) (f - 1) k:Int))∧w'=wx from by
   obtain⟨mk,hmk,hpk⟩:=hW.kid i m k hi hk
   obtain⟨mi,hmi,_,hd⟩:=hW.par k mk i hmk hpk
   have hlk:=hW.low k mk hmk
   exact ih (f - 1) (by omega) k mk hmk (by omega) wx hx))
  have hE:hgt (kM (ms X)) f i=(m.kids.foldl (fun a k=>max a (hgt (kM (ms X)) (f - 1) k)) 0)+1:=by
   cases f with
   | zero =>
    have hk0:m.kids=[]:=by
     cases hk:m.kids with
     | nil=>rfl
     | cons k t =>
      obtain⟨mk,hmk,hpk⟩:=hW.kid i m k hi (by rw [hk];simp)
      obtain⟨mi,hmi,_,hd⟩:=hW.par k mk i hmk hpk
      have:=hW.low k mk hmk
      omega
    rw [hk0];rfl
   | succ f =>
    show(kM (ms X) i).foldl (fun a k=>max a (hgt (kM (ms X)) f k)) 0+1=_
    rw [hkM];rfl
  have HE:=Lib.hid hE
  have HG:=Lib.hid (fun(t:Nat) (k:Nat) (hk:m.kids[t]? = some k)=>kid_get ho hk)
  have HB:=Lib.hid (fun t=>foldl_max_le (fun k=>hgt (kM (ms X)) (f - 1) k) 129 (m.kids.take t) 0 (by omega) (fun k hk=>by
   have:=hgt_le (kM (ms X)) (f - 1) k
   omega))
  have HH:=Lib.hid h
  clear hE h ih ho hkM
  go_enter Tryz.func95,Tryz.ntmps95
  go_wp2_with fail
  go_loopw [5,6] (fun nv iv wr=>∃t:Nat,t≤m.kids.length∧iv=.int .i64 (t:Int)∧nv=.int .i64 (((m.kids.take t).foldl (fun a k=>max a (hgt (kM (ms X)) (f - 1) k)) 0:Nat):Int)∧wr=w) (fun _ iv _=>m.kids.length - intN iv)
  case atStart=>exact⟨0,by omega,rfl,rfl,rfl⟩
  case round =>
   obtain⟨t,ht,rfl,rfl,rfl⟩:=hrel
   by_cases htl:t < m.kids.length
   ·obtain⟨k,hk⟩:∃k,m.kids[t]? = some k:=⟨_,List.getElem?_eq_getElem htl⟩
    obtain⟨gk,rfl,ck⟩:=HG.out t k hk
    have hb:=HB.out t
    have HK:=Lib.hid (HC.out k (List.mem_of_getElem? hk) _ HH.out)
    have hstep:(m.kids.take (t+1)).foldl (fun a k=>max a (hgt (kM (ms X)) (f - 1) k)) 0=max ((m.kids.take t).foldl (fun a k=>max a (hgt (kM (ms X)) (f - 1) k)) 0) (hgt (kM (ms X)) (f - 1) k):=by
     rw [List.take_add_one,hk,List.foldl_append];rfl
    have HS:=Lib.hid hstep
    have hkb:=hgt_le (kM (ms X)) (f - 1) k
    generalize hgt (kM (ms X)) (f - 1) k=y at *
    clear hstep hk
    generalize (m.kids.take t).foldl (fun a k=>max a (hgt (kM (ms X)) (f - 1) k)) 0=z at *
    have hmx:max (z:Int) (y:Int)=((max z y:Nat):Int):=by omega
    go_wp2_with fail
    refine HK.out.mono ?_
    rintro e wz ⟨rfl,hw⟩
    subst wz
    go_wp2_with fail
    exact⟨⟨t+1,by omega,by first | rfl | simp,by rw [HS.out];first | done | rfl | (simp [hmx]),by trivial⟩,by simp only [intN];omega⟩
   ·obtain rfl:t=m.kids.length:=by omega
    have hb:=HB.out m.kids.length
    rw [List.take_length] at hb ⊢
    have HE':=HE.out
    generalize m.kids.foldl (fun a k=>max a (hgt (kM (ms X)) (f - 1) k)) 0=z at *
    have HE2:=Lib.hid HE'
    clear HE HE'
    go_wp2_with fail
    go_ret
    exact⟨by rw [HE2.out];first | done | rfl | simp,rfl⟩
def elemM (M:List MN)(h k:Nat):Bool:=k != h && (match lv M k with | some m=>m.kind == 2 | none=>false)
def mchB (M:List MN)(D:Nat→Nat)(p h:Nat)(mp mh:MN):Bool :=
 if h=0∨mcont M h (D p) (some p)=true then false
 else if mp.kind=2 then true
 else if p≠0∨mh.kind=3 then false
 else !(mp.kids.any fun k=>elemM M h k && mh.kind == 2)
theorem mchild_any {w:World}(h:MdW Q (.slice (some ⟨g,0,none⟩) X.length cap) X w)(hW:MW (ms X) D)(p c:Nat){mp mc:MN}(hp:lv (ms X) p=some mp)(hc:lv (ms X) c=some mc) :
  Calls Tryz.prog 93 #[.pointer (some ⟨Q,0,none⟩),.int .i64 (p:Int),.int .i64 (c:Int)] w fun e w'=>e=.returned (.bool (mchB (ms X) D p c mp mc))∧w'=w:=by
 have c0:=h.ptr
 have hXl:=(ms_len X ▸ hW.few)
 obtain⟨p0,_,ka,kc,p5,ho⟩:=h.lvc hp
 obtain⟨k0,_,_⟩:=h.lvc hc
 have l1:=lv_lt hp
 have l2:=lv_lt hc
 have hkl:=hW.klen hp
 have HCt:=Lib.hid (mcontains_any h hW c p (by omega) hp)
 have HG:=Lib.hid (fun(t:Nat) (k:Nat) (hk:mp.kids[t]? = some k)=>kid_get ho hk)
 have HK:=Lib.hid (fun(k:Nat) (hk:k∈mp.kids)=>(show ∃mk,lv (ms X) k=some mk∧w.cell? ⟨g,k*7,none⟩=some (.int .i64 mk.kind) from by
  obtain⟨mk,hmk,_⟩:=hW.kid p mp k hp hk
  exact⟨mk,hmk,(h.lvc hmk).1⟩))
 unfold mchB
 clear h ho
 by_cases q0:c=0
 ·rw [if_pos (.inl q0)]
  have e0:((c:Int) == 0)=true:=by simp;omega
  go_enter Tryz.func93,Tryz.ntmps93
  go_wp2_with fail
  go_ret
  exact⟨rfl,rfl⟩
 have e0:((c:Int) == 0)=false:=by simp;omega
 cases q1:mcont (ms X) c (D p) (some p)
 case true =>
  rw [if_pos (.inr rfl)]
  rw [q1] at HCt
  clear q0
  go_enter Tryz.func93,Tryz.ntmps93
  go_wp2_with fail
  refine HCt.out.mono ?_
  rintro e wz ⟨rfl,hw⟩
  subst wz
  go_wp2_with fail
  go_ret
  exact⟨rfl,rfl⟩
 rw [if_neg (by rintro(e | e);exact q0 e;cases e)]
 rw [q1] at HCt
 by_cases q2:mp.kind=2
 ·rw [if_pos q2]
  rw [q2] at p0
  clear q0 q2
  go_enter Tryz.func93,Tryz.ntmps93
  go_wp2_with fail
  refine HCt.out.mono ?_
  rintro e wz ⟨rfl,hw⟩
  subst wz
  go_wp2_with fail
  go_ret
  exact⟨rfl,rfl⟩
 rw [if_neg q2]
 have e2:(mp.kind == 2)=false:=by simpa using q2
 by_cases q3:p=0
 case neg =>
  rw [if_pos (.inl q3)]
  have e3:((p:Int) != 0)=true:=by simp;omega
  clear q0 q2 q3
  go_enter Tryz.func93,Tryz.ntmps93
  go_wp2_with fail
  refine HCt.out.mono ?_
  rintro e wz ⟨rfl,hw⟩
  subst wz
  go_wp2_with fail
  go_ret
  exact⟨rfl,rfl⟩
 subst q3
 by_cases q4:mc.kind=3
 ·rw [if_pos (.inr q4)]
  rw [q4] at k0
  clear q0 q2 q4
  go_enter Tryz.func93,Tryz.ntmps93
  go_wp2_with fail
  refine HCt.out.mono ?_
  rintro e wz ⟨rfl,hw⟩
  subst wz
  go_wp2_with fail
  go_ret
  exact⟨rfl,rfl⟩
 rw [if_neg (by rintro(e | e);exact e rfl;exact q4 e)]
 have e4:(mc.kind == 3)=false:=by simpa using q4
 rw [Nat.zero_mul] at p0
 have p5':w.cell? ⟨g,5,none⟩=some (.slice ka mp.kids.length kc):=by rw [Nat.zero_mul,Nat.zero_add] at p5;exact p5
 clear q0 q2 q4 p5
 have hq1:(↑(0:Nat):Int)=0:=rfl
 go_enter Tryz.func93,Tryz.ntmps93
 go_wp2_with fail
 refine HCt.out.mono ?_
 rintro e wz ⟨rfl,hw⟩
 subst wz
 go_wp2_with fail
 go_loopw [7,8] (fun iv _ wr=>∃t:Nat,t≤mp.kids.length∧iv=.int .i64 (t:Int)∧((mp.kids.take t).any fun k=>elemM (ms X) c k && mc.kind == 2)=false∧wr=w) (fun iv _ _=>mp.kids.length - intN iv)
 case atStart=>exact⟨0,by omega,rfl,rfl,rfl⟩
 case round =>
  obtain⟨t,ht,rfl,hany,rfl⟩:=hrel
  have HA:=Lib.hid hany
  clear hany
  by_cases htl:t < mp.kids.length
  ·obtain⟨k,hk⟩:∃k,mp.kids[t]? = some k:=⟨_,List.getElem?_eq_getElem htl⟩
   obtain⟨gk,rfl,ck⟩:=HG.out t k hk
   obtain⟨mk,hmk,ckk⟩:=HK.out k (List.mem_of_getElem? hk)
   have lk:=lv_lt hmk
   have hstep:((mp.kids.take (t+1)).any fun k=>elemM (ms X) c k && mc.kind == 2)=(elemM (ms X) c k && mc.kind == 2):=by
    rw [List.take_add_one,hk,List.any_append,HA.out];simp
   have hel:elemM (ms X) c k=(k != c && mk.kind == 2):=by unfold elemM;rw [hmk]
   rw [hel] at hstep
   have hmem:=List.mem_of_getElem? hk
   have hany2:(elemM (ms X) c k && mc.kind == 2)=true→(mp.kids.any fun k=>elemM (ms X) c k && mc.kind == 2)=true:=fun e=>List.any_eq_true.2 ⟨k,hmem,e⟩
   rw [hel] at hany2
   have HS:=Lib.hid hstep
   have HY:=Lib.hid hany2
   clear hstep hany2 hk hmk hel hmem
   by_cases r0:k=c
   ·have f0:((k:Int) != (c:Int))=false:=by simp;omega
    have hz:(k != c)=false:=by simpa using r0
    have HN:=Lib.hid (HS.out.trans (by rw [hz];first | done | rfl))
    clear hz
    go_wp2_with fail
    exact⟨⟨t+1,by omega,by first | rfl | simp,HN.out,by trivial⟩,by simp only [intN];omega⟩
   ·have f0:((k:Int) != (c:Int))=true:=by simp;omega
    have hz:(k != c)=true:=by simpa using r0
    by_cases r1:mk.kind=2
    ·have f1:(mk.kind == 2)=true:=by simpa using r1
     by_cases r2:mc.kind=2
     ·have f2:(mc.kind == 2)=true:=by simpa using r2
      have hres:=HY.out (by rw [hz,f1,f2];rfl)
      have HRes:=Lib.hid hres
      clear hz r0 r1 r2 hres
      go_wp2_with fail
      go_ret
      exact⟨by rw [HRes.out];rfl,rfl⟩
     ·have f2:(mc.kind == 2)=false:=by simpa using r2
      have HN:=Lib.hid (HS.out.trans (by rw [f2,Bool.and_false]))
      clear hz r0 r1 r2
      go_wp2_with fail
      exact⟨⟨t+1,by omega,by first | rfl | simp,HN.out,by trivial⟩,by simp only [intN];omega⟩
    ·have f1:(mk.kind == 2)=false:=by simpa using r1
     have HN:=Lib.hid (HS.out.trans (by rw [f1,Bool.and_false,Bool.false_and]))
     clear hz r0 r1
     go_wp2_with fail
     exact⟨⟨t+1,by omega,by first | rfl | simp,HN.out,by trivial⟩,by simp only [intN];omega⟩
  ·obtain rfl:t=mp.kids.length:=by omega
   have hany:=HA.out
   rw [List.take_length] at hany
   have HRes:=Lib.hid hany
   clear hany
   go_wp2_with fail
   go_ret
   exact⟨by rw [HRes.out];rfl,rfl⟩
theorem mfind_any {w:World}(h:MdW Q (.slice (some ⟨g,0,none⟩) X.length cap) X w)(hf:X.length≤100000)(i:Nat){x:MX}(hx:X[i]? = some x)(hl:x.m.attrs.length≤100000)(nm:List UInt8) :
  Calls Tryz.prog 98 #[.pointer (some ⟨Q,0,none⟩),.int .i64 (i:Int),strV nm] w fun e w'=>e=.returned (.int .i64 (nmOf x.m.attrs nm))∧w'=w:=by
 have c0:=h.ptr
 have l1:=(List.getElem?_eq_some_iff.1 hx).1
 obtain⟨aa,ac,hav⟩:=h.ashape (List.mem_of_getElem? hx)
 have c2:=h.cell hx 2 (by omega)
 simp only [mxC,zzD,zzE] at c2
 have ho:=h.att x (List.mem_of_getElem? hx)
 rw [hav] at c2 ho
 have HG:=Lib.hid (fun(t:Nat) (y:Atr) (hy:x.m.attrs[t]? = some y)=>(show ∃ga,aa=some ⟨ga,0,none⟩∧w.cell? ⟨ga,t*2,none⟩=some (.string ⟨y.1.toArray⟩) from by
  have hlt:=(List.getElem?_eq_some_iff.1 hy).1
  obtain⟨ga,hga⟩:∃g,aa=some ⟨g,0,none⟩:=by
   rcases ho.2 with ⟨e,e2⟩ | ⟨g,cap,cur,e,_⟩
   ·omega
   ·simp only [Value.slice.injEq] at e;exact⟨g,e.1⟩
  subst hga
  have:=ho.cells (g:=ga) rfl (2*t) _ (attrC_at _ t y hy).1
  rw [Go.WideShapes.add_plain,Nat.zero_add] at this
  exact⟨ga,rfl,by rw [Nat.mul_comm];exact this⟩))
 have HEQ:=Lib.hid (fun a b:List UInt8=>str_eq a b)
 have HN1:=Lib.hid (fun(k:Nat) (y:Atr) (hk:x.m.attrs[k]? = some y) (hy:y.1=nm) h=>nmOf_some hk hy h)
 have HN2:=Lib.hid (fun h=>nmOf_none (l:=x.m.attrs) (x:=nm) h)
 unfold strV
 clear h ho hx
 go_enter Tryz.func98,Tryz.ntmps98
 go_wp2_with fail
 go_loopw [7] (fun iv wr=>∃t:Nat,t≤x.m.attrs.length∧iv=.int .i64 (t:Int)∧(∀j z,j < t→x.m.attrs[j]? = some z→z.1≠nm)∧wr=w) (fun iv _=>x.m.attrs.length - intN iv)
 case atStart=>exact⟨0,by omega,rfl,fun j z hj=>absurd hj (by omega),rfl⟩
 case round =>
  obtain⟨t,ht,rfl,hno,rfl⟩:=hrel
  have HNo:=Lib.hid hno
  clear hno
  by_cases htl:t < x.m.attrs.length
  ·obtain⟨y,hy⟩:∃y,x.m.attrs[t]? = some y:=⟨_,List.getElem?_eq_getElem htl⟩
   obtain⟨ga,rfl,ca⟩:=HG.out t y hy
   have heq:=HEQ.out y.1 nm
   have HY:=Lib.hid hy
   clear hy
   generalize hs1:(⟨y.1.toArray⟩:ByteArray)=s1 at *
   generalize (⟨nm.toArray⟩:ByteArray)=s2 at *
   by_cases hyn:y.1=nm
   ·rw [decide_eq_true hyn] at heq
    have HRes:=Lib.hid (HN1.out _ _ HY.out hyn (fun j z hj hz=>HNo.out j z hj hz))
    clear hyn
    go_wp2_with fail
    go_ret
    exact⟨by rw [HRes.out];rfl,rfl⟩
   ·rw [decide_eq_false hyn] at heq
    have HN:=Lib.hid (show ∀j z,j < t+1→x.m.attrs[j]? = some z→z.1≠nm from fun j z hj hz=>by
     by_cases e:j=t
     ·subst e;rw [HY.out] at hz;cases hz;exact hyn
     ·exact HNo.out j z (by omega) hz)
    clear hyn
    go_wp2_with fail
    exact⟨⟨t+1,by omega,by first | rfl | simp,HN.out,by trivial⟩,by simp only [intN];omega⟩
  ·obtain rfl:t=x.m.attrs.length:=by omega
   have HRes:=Lib.hid (HN2.out (fun j z hz=>HNo.out j z (List.getElem?_eq_some_iff.1 hz).1 hz))
   go_wp2_with fail
   go_ret
   exact⟨by rw [HRes.out];rfl,rfl⟩
end
structure MdAt (Q:Nat) (nv:Value) (X:List MX) (w:World):Prop where
 W:MdW Q nv X w
 apA:∀(i j:Nat) (x y:MX) (b:Nat),i≠j→X[i]? = some x→X[j]? = some y→x.av.ownBlock=some b→y.av.ownBlock≠some b
 apK:∀(i j:Nat) (x y:MX) (b:Nat),i≠j→X[i]? = some x→X[j]? = some y→x.kv.ownBlock=some b→y.kv.ownBlock≠some b
def mdF (Q:Nat)(nv:Value)(X:List MX)(k:Nat):Prop:=k=Q∨nv.ownBlock=some k∨∃x∈X,x.av.ownBlock=some k∨x.kv.ownBlock=some k
theorem MdAt.below {Q:Nat}{nv:Value}{X:List MX}{w w':World}(h:MdAt Q nv X w)(hb:Below w.heap.size w w'):MdAt Q nv X w':=⟨h.W.below hb,h.apA,h.apK⟩
theorem own_blk {w:World}{e size n b:Nat}{v:Value}{xs:List Value}(h:Own w e size v n xs)(hb:v.ownBlock=some b):∃cur,w.heap[b]? = some (.cells cur e (0,0)):=own_ty h hb
def mdO (Q:Nat)(nv:Value)(X:List MX):Ob where
 P:=fun w=>MdAt Q nv X w
 F:=mdF Q nv X
 here:=fun w h k hk=>by
  rcases hk with rfl | hk | ⟨x,hx,hk | hk⟩
  ·exact h.W.blk.lt
  ·exact own_lt h.W.row hk
  ·exact own_lt (h.W.att x hx) hk
  ·exact own_lt (h.W.kid x hx) hk
 loc:=fun w w' h k=>⟨⟨h.W.blk.kept (k Q (.inl rfl)),own_kept h.W.row (fun b hb=>k b (.inr (.inl hb))),fun x hx=>own_kept (h.W.att x hx) (fun b hb=>k b (.inr (.inr ⟨x,hx,.inl hb⟩))),fun x hx=>own_kept (h.W.kid x hx) (fun b hb=>k b (.inr (.inr ⟨x,hx,.inr hb⟩)))⟩,h.apA,h.apK⟩
structure MdOut (Q:Nat) (nv:Value) (X:List MX) (w:World) (nv':Value) (X':List MX) (w':World):Prop where
 at_:MdAt Q nv' X' w'
 chg:Chg (mdF Q nv X) w w'
 new:∀k,mdF Q nv' X' k→mdF Q nv X k∨w.heap.size≤k
theorem MdOut.refl {Q:Nat}{nv:Value}{X:List MX}{w w':World}(h:MdAt Q nv X w)(hb:Below w.heap.size w w'):MdOut Q nv X w nv X w':=⟨h.below hb,Chg.of_below hb,fun k hk=>.inl hk⟩
theorem MdOut.trans {Q:Nat}{nv nv1 nv2:Value}{X X1 X2:List MX}{w w1 w2:World}(h:MdOut Q nv X w nv1 X1 w1)(k:MdOut Q nv1 X1 w1 nv2 X2 w2):MdOut Q nv X w nv2 X2 w2 :=
 ⟨k.at_,h.chg.trans k.chg (fun i hi hf=>by rcases h.new i hf with h1 | h1;exact h1;omega),fun i hi=>by
  rcases k.new i hi with h1 | h1
  ·exact h.new i h1
  ·exact .inr (Nat.le_trans h.chg.size h1)⟩
theorem MdOut.still {Q:Nat}{nv nv1:Value}{X X1:List MX}{w w1 w2:World}(h:MdOut Q nv X w nv1 X1 w1)(hb:Below w1.heap.size w1 w2):MdOut Q nv X w nv1 X1 w2:=h.trans (MdOut.refl h.at_ hb)
theorem MdOut.all {Q:Nat}{nv nv1:Value}{X X1:List MX}{B:Nat}{w0 w w1:World}{l:List Ob}(h:MdOut Q nv X w nv1 X1 w1)(hA:All B w0 (mdO Q nv X :: l) w):All B w0 (mdO Q nv1 X1 :: l) w1 :=
 hA.step [] (o':=mdO Q nv1 X1) h.at_ h.chg h.new
theorem MdAt.put {Q g cap i j:Nat}{X:List MX}{w:World}{x:MX}(h:MdAt Q (.slice (some ⟨g,0,none⟩) X.length cap) X w)(hi:X[i]? = some x)(x':MX)(u:Value)(hj:j < 7)(hx:mxC x'=(mxC x).set j u)
  (ha:Own w 92 2 x'.av x'.m.attrs.length (attrC x'.m.attrs))(hk:Own w 3 1 x'.kv x'.m.kids.length (kC x'.m.kids))
  (fa:x'.av.ownBlock=x.av.ownBlock∨∀b,x'.av.ownBlock=some b→∀y∈X,y.av.ownBlock≠some b)
  (fk:x'.kv.ownBlock=x.kv.ownBlock∨∀b,x'.kv.ownBlock=some b→∀y∈X,y.kv.ownBlock≠some b) :
  MdAt Q (.slice (some ⟨g,0,none⟩) X.length cap) (X.set i x') (w.setCell ⟨g,i*7+j,none⟩ u):=by
 have hil:=(List.getElem?_eq_some_iff.1 hi).1
 obtain⟨cg,hg⟩:=own_blk h.W.row (b:=g) rfl
 have oth:∀{e size n:Nat}{v:Value}{xs:List Value},Own w e size v n xs→e≠81→Own (w.setCell ⟨g,i*7+j,none⟩ u) e size v n xs:=fun {e size n v xs} ho hne=>own_kept ho (fun b hb=>by
  refine Below.heap_setCell _ _ _ _ (fun e2=>?_)
  obtain⟨cur,hc⟩:=own_blk ho hb
  rw [show b=g from e2,hg] at hc
  cases hc
  exact hne rfl)
 have hget:∀k y,(X.set i x')[k]? = some y→(k=i∧y=x')∨(k≠i∧X[k]? = some y):=fun k y hk=>by
  rw [List.getElem?_set] at hk
  by_cases e:i=k
  ·subst e;rw [if_pos rfl,if_pos hil] at hk;cases hk;exact .inl ⟨rfl,rfl⟩
  ·rw [if_neg e] at hk;exact .inr ⟨fun e2=>e e2.symm,hk⟩
 have hmem:∀y∈X.set i x',y=x'∨y∈X:=fun y hy=>by
  obtain⟨k,hk⟩:=List.mem_iff_getElem?.1 hy
  rcases hget k y hk with ⟨_,e⟩ | ⟨_,e⟩
  ·exact .inl e
  ·exact .inr (List.mem_of_getElem? e)
 refine⟨⟨?_,?_,?_,?_⟩,?_,?_⟩
 ·refine h.W.blk.setOther ⟨g,i*7+j,none⟩ (fun e=>?_) u
  have:=h.W.blk
  have e2:w.heap[Q]? = _:=this
  rw [show Q=g from e,hg] at e2
  cases e2
 ·rw [List.length_set,rows_field mxC_len X i j x x' u hi hj hx]
  exact own_set h.W.row (i*7+j) u
 ·intro y hy
  rcases hmem y hy with rfl | hy
  ·exact oth ha (by decide)
  ·exact oth (h.W.att y hy) (by decide)
 ·intro y hy
  rcases hmem y hy with rfl | hy
  ·exact oth hk (by decide)
  ·exact oth (h.W.kid y hy) (by decide)
 ·intro a c p q b hac hp hq hb
  rcases hget a p hp with ⟨rfl,rfl⟩ | ⟨e1,hp'⟩
  ·rcases hget c q hq with ⟨e2,_⟩ | ⟨e2,hq⟩
   ·exact absurd e2.symm hac
   ·rcases fa with e | e
    ·exact h.apA a c x q b hac hi hq (e ▸ hb)
    ·exact e b hb q (List.mem_of_getElem? hq)
  ·rcases hget c q hq with ⟨e2,rfl⟩ | ⟨e2,hq⟩
   ·subst e2
    rcases fa with e | e
    ·rw [e];exact h.apA a c p x b hac hp' hi hb
    ·exact fun e3=>e b e3 p (List.mem_of_getElem? hp') hb
   ·exact h.apA a c p q b hac hp' hq hb
 ·intro a c p q b hac hp hq hb
  rcases hget a p hp with ⟨rfl,rfl⟩ | ⟨e1,hp'⟩
  ·rcases hget c q hq with ⟨e2,_⟩ | ⟨e2,hq⟩
   ·exact absurd e2.symm hac
   ·rcases fk with e | e
    ·exact h.apK a c x q b hac hi hq (e ▸ hb)
    ·exact e b hb q (List.mem_of_getElem? hq)
  ·rcases hget c q hq with ⟨e2,rfl⟩ | ⟨e2,hq⟩
   ·subst e2
    rcases fk with e | e
    ·rw [e];exact h.apK a c p x b hac hp' hi hb
    ·exact fun e3=>e b e3 p (List.mem_of_getElem? hp') hb
   ·exact h.apK a c p q b hac hp' hq hb
theorem MdAt.snoc {Q:Nat}{nv nv':Value}{X:List MX}{w w':World}(h:MdAt Q nv X w)(x:MX)(hc:Chg (fun k=>k=Q∨nv.ownBlock=some k) w w')(hb:Blk w' Q [nv'] 84)(hr:Own w' 81 7 nv' (X.length+1) (rows mxC X ++ mxC x))
  (ha:Own w' 92 2 x.av x.m.attrs.length (attrC x.m.attrs))(hk:Own w' 3 1 x.kv x.m.kids.length (kC x.m.kids))(fa:∀b,x.av.ownBlock=some b→∀y∈X,y.av.ownBlock≠some b)(fk:∀b,x.kv.ownBlock=some b→∀y∈X,y.kv.ownBlock≠some b) :
  MdAt Q nv' (X ++ [x]) w':=by
 have hQ:w.heap[Q]? = some (.cells #[nv] 84 (0,0)):=h.W.blk
 have oth:∀{e size n:Nat}{v:Value}{xs:List Value},Own w e size v n xs→e≠81→e≠84→Own w' e size v n xs:=fun {e size n v xs} ho h1 h2=>own_kept ho (fun b hb=>by
  obtain⟨cur,hcur⟩:=own_blk ho hb
  refine hc.block b (lt_of_block hcur) ?_
  rintro(rfl | e2)
  ·rw [hQ] at hcur;cases hcur;exact h2 rfl
  ·obtain⟨cur2,h3⟩:=own_blk h.W.row e2
   rw [hcur] at h3;cases h3;exact h1 rfl)
 have hget:∀k y,(X ++ [x])[k]? = some y→(k=X.length∧y=x)∨X[k]? = some y:=fun k y hk=>by
  by_cases e:k < X.length
  ·rw [List.getElem?_append_left e] at hk;exact .inr hk
  ·rw [List.getElem?_append_right (by omega)] at hk
   have:=(List.getElem?_eq_some_iff.1 hk).1
   have e2:k - X.length=0:=by simp at this;omega
   rw [e2] at hk
   simp at hk
   exact .inl ⟨by omega,hk.symm⟩
 refine⟨⟨hb,?_,?_,?_⟩,?_,?_⟩
 ·rw [List.length_append,List.length_singleton,rows_snoc];exact hr
 ·intro y hy
  rcases List.mem_append.1 hy with hy | hy
  ·exact oth (h.W.att y hy) (by decide) (by decide)
  ·simp at hy;subst hy;exact ha
 ·intro y hy
  rcases List.mem_append.1 hy with hy | hy
  ·exact oth (h.W.kid y hy) (by decide) (by decide)
  ·simp at hy;subst hy;exact hk
 ·intro a c p q b hac hp hq hb'
  rcases hget a p hp with ⟨e1,rfl⟩ | hp'
  ·rcases hget c q hq with ⟨e2,_⟩ | hq
   ·omega
   ·exact fa b hb' q (List.mem_of_getElem? hq)
  ·rcases hget c q hq with ⟨e2,rfl⟩ | hq
   ·exact fun e3=>fa b e3 p (List.mem_of_getElem? hp') hb'
   ·exact h.apA a c p q b hac hp' hq hb'
 ·intro a c p q b hac hp hq hb'
  rcases hget a p hp with ⟨e1,rfl⟩ | hp'
  ·rcases hget c q hq with ⟨e2,_⟩ | hq
   ·omega
   ·exact fk b hb' q (List.mem_of_getElem? hq)
  ·rcases hget c q hq with ⟨e2,rfl⟩ | hq
   ·exact fun e3=>fk b e3 p (List.mem_of_getElem? hp') hb'
   ·exact h.apK a c p q b hac hp' hq hb'
theorem step_append_src {P:Program}{t e:TypeId}{size bytes:Nat}(hT:ET P t e size bytes){B:Nat}{w0 w:World}(l1:List Ob){l2:List Ob}{dv:Value}{n:Nat}{xs:List Value}
  (h:All B w0 (l1 ++ sl e size dv n xs :: l2) w){ad:Addr}{m c:Nat}{ys:List Value}(hl:ys.length=m*size)(hs:∀j u,ys[j]? = some u→w.cell? (ad.add j)=some u)(h1:∀u∈ys,u.oneCell'=true)(hlen:n+m≤1000000000)(hby:bytes≤1000)
  {ops:Array Oper}{E:Prop}{o:Oper}{a:Act}{K:Act→World→Prop}{Q:Exit→Act→World→Prop}(hgd:o.guard=none)(s x:Operand)(ho:o.op=.call { callee:=.builtin .append,args:=#[s,x],argTypes:=#[t,t] })(hd:a.eval s=dv)(hx:a.eval x=.slice (some ad) m c)
  (hc:∀v' w',All B w0 (l1 ++ sl e size v' (n+m) (xs ++ ys) :: l2) w'→(v'.ownBlock=dv.ownBlock∨v'.ownBlock=some w.heap.size)→K (a.put o.dst v') w'):if Region.wanted o (yielded ops a.tmps)=true then Oper.wp P o a w K Q else E:=by
 have hw:Region.wanted o (yielded ops a.tmps)=true:=by simp [Region.wanted,hgd]
 rw [if_pos hw]
 obtain⟨i,z,hi,hz0,hz1,hz2,hz3⟩:=hT.info
 have hown:Own w e size dv n xs:=h.mid
 have hmul:(n+m)*bytes≤1000000000*1000:=Nat.mul_le_mul hlen hby
 obtain⟨v',w',hr,h2,h3,_,h5⟩:=run_append_own_at (P:=P) w 0 t o.type e i z size bytes hT.under hi hz0 hz1 hz2 hz3 hT.pos dv n xs hown ad m c ys hl hs h1 (by unfold maxLen;omega) (by omega) (Nat.zero_le _)
 unfold Oper.wp execOp
 simp only [ho,resolve,invoke,builtin,Sem.run_bind,Sem.run_pure,Result.andThen_ok,List.map_toArray,List.map_cons,List.map_nil,hd,hx,hr]
 refine hc v' w' (h.step l1 (o':=sl e size v' (n+m) (xs ++ ys)) h2 ((Chg.refl _ _).grown h3 (fun k hk _=>hk)) ?_) h5
 intro k hk
 have hk':v'.ownBlock=some k:=hk
 rcases h5 with h5 | h5
 ·exact .inl (show dv.ownBlock=some k by rw [← h5];exact hk')
 ·right
  rw [h5] at hk'
  have:=Option.some.inj hk'
  omega
end Go.Proofs.YtfelmdkeaacfeaaGreatDoor.W
end
