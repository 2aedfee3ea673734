/- Texts joined: DoR DoS Do8 Do9. -/
import Derived.Test.YtfelmdkeaacfeaaGreatDoorTB1
import Derived.Test.YtfelmdkeaacfeaaGreatDoorTB39
import Derived.Test.YtfelmdkeaacfeaaGreatDoorTB34
set_option maxRecDepth 100000
set_option maxHeartbeats 40000000
set_option linter.unusedVariables false
set_option linter.unusedSimpArgs false
section
namespace Go.Proofs.YtfelmdkeaacfeaaGreatDoor.W
open Go.RowKit
section
variable {ex : Prop} {E : Nat → Prop} {c x : Nat} {B : Nat} {w0 : World} {l : List Ob} {g R Q : Nat} {S S' : Tr} {K : Nat → List Nat} {d : Nat → Nat} {X X' : List MX} {σ : Nat → Nat} {o : ou}
theorem Qz (T:CX ex E c x S K d (ms X) σ)(hE:∀y,E y→(S.at y).isSome=true)(hX:X.length≤600)(hx:x≤2000)(hk:o.k % 10=8){ma:MN}{n:Nd}(ha:lv (ms X) (o.iA (ms X).length)=some ma)(hn:S.at (σ (o.iA (ms X).length))=some n){h er en:Int}
  (ht:OV S K d (σ (o.iA (ms X).length)) n (decide (0 < o.n)) S' h er)
  (hm:(o.iA (ms X).length=0∧en=10∧ms X'=ms X)∨(o.iA (ms X).length≠0∧en=0∧ms X'=ms X ++ (if decide (0 < o.n)=true then(dR (kM (ms X)) (128 - d (σ (o.iA (ms X).length))) (o.iA (ms X).length)).map (OW (ms X) (vM (dR (kM (ms X)) (128 - d (σ (o.iA (ms X).length))) (o.iA (ms X).length)) X.length) (o.iA (ms X).length) none) else [⟨ma.kind,ma.name,ma.attrs,ma.data,none,[],false⟩]))) :
  (er=10∧en=10∧h=0∧∀w hv sv fv nv,All B w0 (kK g R Q hv (iZ S σ (ms X)) S' sv fv nv X' ++ l) w→E8 ex E c x B w0 l g R Q S K d (ms X) σ o (.returned (.tuple #[.slice none 0 0,.bool true])) w) ∨
  (er=0∧en=0∧∃(K':Nat→List Nat) (d':Nat→Nat) (q:Nat) (nq:Nd),h=S'.hd q∧Lk S' K' d'∧S'.at q=some nq∧X'.length=X.length+(dR K' (128 - d' q) q).length∧(dR K' (128 - d' q) q).length≤3000 ∧
   ∀w hv sv fv nv,All B w0 (kK g R Q hv (iZ S σ (ms X) ++ (dR K' (128 - d' q) q).map S'.hd) S' sv fv nv X' ++ l) w→E8 ex E c x B w0 l g R Q S K d (ms X) σ o (.returned (.tuple #[.slice none 0 0,.bool true])) w):=by
 have hl:=T.lim
 have hz:=T.tw.zero
 have hMl:=aY X
 cases ht with
 | doc h1 =>
  have h0:o.iA (ms X).length=0:=by
   by_cases e:o.iA (ms X).length=0
   ·exact e
   ·obtain⟨z,m0,hm0⟩:=hz
    exact absurd h1 (T.ok.other _ n hn (fun e2=>e (T.tw.inj _ 0 ma m0 ha hm0 (by rw [z];exact e2))))
  rcases hm with ⟨_,e1,e2⟩ | ⟨e1,_⟩
  ·refine .inl ⟨rfl,e1,rfl,fun w hv sv fv nv hA=>?_⟩
   have hst:uP (ms X) (fun i=>d (σ i)) o (ms X') []:=by rw [e2];exact .cpy ma _ 10 hk ha (.doc h0)
   have hb:=qV T.ok T.tw T.cl 10
   rw [← e2] at hb
   exact ku (er:=10) (en:=10) (ls:=[]) (rs:=[]) (ts:=[]) T (by rw [← e2];exact hb) (hA.nil _ _) rfl (fun _=>⟨rfl,rfl⟩) hst (by omega)
  ·exact absurd h0 e1
 | deep h1 hd S' K' d' r C =>
  have h0:o.iA (ms X).length≠0:=fun e=>by
   obtain⟨nd,hd1,hd2⟩:=T.ok.doc
   rw [e,hz.1,hd1] at hn
   cases hn
   exact h1 hd2
  rcases hm with ⟨e1,_⟩ | ⟨_,e1,e2⟩
  ·exact absurd e1 h0
  ·rw [aC hd,← hMl] at e2
   obtain⟨k1,k2⟩:=Sv (B:=B) (w0:=w0) (l:=l) (g:=g) (R:=R) (Q:=Q) T hE hk ha h0 hd C (by omega) e2
   obtain⟨_,_,n',_,hn',_⟩:=C.new (σ (o.iA (ms X).length)) (by obtain⟨t,ht⟩:=Dh K (128 - d (σ (o.iA (ms X).length))) (σ (o.iA (ms X).length));rw [ht];simp)
   have hS2:S'.slots.length≤S.slots.length+(dR K (128 - d (σ (o.iA (ms X).length))) (σ (o.iA (ms X).length))).length:=by
    have h3:=CQ (dR K (128 - d (σ (o.iA (ms X).length))) (σ (o.iA (ms X).length))).length S.fl
    rw [← C.fl] at h3
    exact h3.2.1
   have hwl:=oz T.ok.lk (128 - d (σ (o.iA (ms X).length))) (σ (o.iA (ms X).length)) (by rw [hn];rfl)
   have hXl:X'.length≤3600:=by
    have h4:(ms X').length=(ms X).length+(dR (kM (ms X)) (128 - d (σ (o.iA (ms X).length))) (o.iA (ms X).length)).length:=by rw [e2,aA,bM]
    have h5:=T.tw.oz T.ok.lk (128 - d (σ (o.iA (ms X).length))) ha
    rw [aY] at h4
    omega
   refine .inr ⟨rfl,e1,K',d',_,n',(C.hd _).symm,C.lk,hn',k1,?_,k2⟩
   have h4:(ms X').length=(ms X).length+(dR (kM (ms X)) (128 - d (σ (o.iA (ms X).length))) (o.iA (ms X).length)).length:=by rw [e2,aA,bM]
   have h5:=T.tw.oz T.ok.lk (128 - d (σ (o.iA (ms X).length))) ha
   rw [aY] at h4
   omega
 | flat h1 hd S' K' d' r C =>
  have h0:o.iA (ms X).length≠0:=fun e=>by
   obtain⟨nd,hd1,hd2⟩:=T.ok.doc
   rw [e,hz.1,hd1] at hn
   cases hn
   exact h1 hd2
  rcases hm with ⟨e1,_⟩ | ⟨_,e1,e2⟩
  ·exact absurd e1 h0
  ·rw [ax (by rw [hd];decide)] at e2
   obtain⟨k1,k2⟩:=Su (B:=B) (w0:=w0) (l:=l) (g:=g) (R:=R) (Q:=Q) T hE hk ha h0 hd C (by omega) e2
   obtain⟨_,_,n',_,hn',_⟩:=C.new (σ (o.iA (ms X).length)) (by simp)
   refine .inr ⟨rfl,e1,K',d',_,n',(C.hd _).symm,C.lk,hn',k1,?_,k2⟩
   have h4:(ms X').length=(ms X).length+1:=by rw [e2,aA,List.length_singleton]
   rw [aY] at h4
   omega
end
def Ro (x:Value)(a:Act):Act:={ tmps:=(a.tmps.setIfInBounds 76 x).setIfInBounds 11 x,defers:=[] }
theorem OG {B:Nat}{w0 w:World}{l:List Ob}{g R Q hvc gh:Nat}{sv fv nv:Value}{S:Tr}{X:List MX}{Hs:List Int}(h:All B w0 (kK g R Q (.slice (some ⟨gh,0,none⟩) X.length hvc) Hs S sv fv nv X ++ l) w)(hHl:Hs.length=X.length)(i:Nat)(hi:i < X.length)(hXl:X.length≤1000000)(hhd:Hs[i]? = some (-1))(hix:S.ix (-1)=none)(hm:lv (ms X) i=none)(deep:Bool) :
  Calls Tryz.prog 48 #[.pointer (some ⟨g,0,none⟩),.int .i64 (i:Int),.bool deep] w fun e w'=>e=.returned (.bool true)∧All B w0 (kK g R Q (.slice (some ⟨gh,0,none⟩) X.length hvc) Hs S sv fv nv X ++ l) w':=by
 have hA1:=(h.sO [.pointer (some ⟨g,0,none⟩)] 25).perm (List.perm_middle (l₁:=kK g R Q (.slice (some ⟨gh,0,none⟩) X.length hvc) Hs S sv fv nv X) (l₂:=l)).symm
 have hho:uY (-1):=⟨by omega,by omega⟩
 have hil:(i:Int) < (X.length:Int):=by omega
 clear h
 refine(jP (n:=8)).1 ?_
 refine zZ Tryz.func48 rfl trivial ?_ rfl
 simp only [Tryz.ntmps48,gZ,List.length_cons,List.length_nil,Nat.reduceAdd,Nat.reduceSub,ji,Array.replicate_zero,jS,jE,List.nil_append,List.cons_append]
 refine wpIn_wide.2 ?_
 go_upto_region 1 with fail
 generalize w.alloc (.cells #[.pointer (some ⟨g,0,none⟩)] 25)=w1 at *
 have HA1:=ae hA1
 obtain⟨gh',e2,hghl,hgh⟩:=jk hA1 hHl i (-1) hhd
 cases e2
 have hne:=gI w1
 have y0:=fun(x:dS (jc w1))=>(bF (HA1.out.still x.h)).cell 0
 have y2:=fun(x:dS (jc w1))=>(bF (HA1.out.still x.h)).cell 2
 have y3:=fun(x:dS (jc w1))=>aU x.h hgh
 have y4:=fun(x:dS (jc w1))=>(zS (HA1.out.still x.h)).cell 0
 simp only [fQ,fP] at y0 y2 y4
 clear hA1
 refine mW (fun _ _=>True) (fun _ v=>v=.tuple #[.int .i64 0,.int .i64 6]) 18 (by kernel_rfl) (by kernel_rfl) (fun _ _ _ _ _=>trivial) trivial ?_
 simp only [mD,mr,l9,lZ]
 repeat (first
  | (refine RV.aN (by rfl) (by rfl) (fun K hK=>?_);go_big_quiet_step (fail);refine az ?_;refine hK.out _ ?_;clear hK K)
  | (refine RV.aK (by rfl) ?_;simp only [Act.put,dL,dK,dJ]))
 refine RV.dM (by rfl) (by rfl) (fun w=>by go_simp;exact⟨rfl,rfl⟩) (⟨_,rfl⟩) (fun X wx hx=>?_) (fun v hv=>?_)
 ·refine(J9 (jF (HA1.out.still hx.1)) (-1) hho hix deep).mono ?_
  rintro e wy ⟨rfl,hb⟩
  exact⟨_,rfl,rfl,aV hx.1 hb,trivial⟩
 obtain rfl:v=.tuple #[.int .i64 0,.int .i64 6]:=hv
 simp only [Act.put,dL,dK,dJ]
 repeat (first
  | (refine RV.aN (by rfl) (by rfl) (fun K hK=>?_);go_big_quiet_step (fail);refine az ?_;refine hK.out _ ?_;clear hK K)
  | (refine RV.aK (by rfl) ?_;simp only [Act.put,dL,dK,dJ]))
 refine RV.eH ?_
 intro w5 hb5 _
 have HA5:=ae (HA1.out.still hb5)
 have c0:=(zS HA5.out).cell 0
 have g1:=(bF HA5.out).cell 1
 simp only [fQ,fP] at c0 g1
 have HHas:=ae (BV HA5.out i (by omega) ⟨by omega,by omega⟩)
 rw [hm] at HHas
 clear y0 y2 y3 y4 hne hb5 hgh hghl
 go_wp2_with fail
 refine HHas.out.mono ?_
 rintro e w9 ⟨rfl,hw⟩
 rw [hw]
 clear hw
 go_wp2_with fail
 refine⟨.bool true,?_,rfl,HA5.out.sub ((Xb _ _).append_left _)⟩
 simp [results,Tryz.f48,go_sem]
end Go.Proofs.YtfelmdkeaacfeaaGreatDoor.W
end
section
namespace Go.Proofs.YtfelmdkeaacfeaaGreatDoor.W
open Go.RowKit
attribute [local go_sem] Oper.semAt_some
theorem TN {ex:Prop}{E:Nat→Prop}{c:Nat}{S:Tr}{K:Nat→List Nat}{d:Nat→Nat}{M:List MN}{σ : Nat→Nat}(W:Tw ex E c S K M σ)(L:Lk S K d)(f i:Nat)(m:MN)(hi:lv M i=some m):(dR (kM M) f i).Nodup:=by
 obtain⟨n,hn,_⟩:=W.node i m hi
 have h:=pg L f (σ i) (by rw [hn];rfl)
 rw [W.dR f i m hi] at h
 exact(XF.1 h).imp (fun h e=>h (by rw [e]))
theorem OE {ex:Prop}{E:Nat→Prop}{c x:Nat}{B:Nat}{w0 w:World}{l:List Ob}{g R Q gh hvc:Nat}{sv fv nv:Value}{S:Tr}{K:Nat→List Nat}{d:Nat→Nat}{X:List MX}{σ : Nat→Nat}{Hs:List Int}
  (h:All B w0 (kK g R Q (.slice (some ⟨gh,0,none⟩) X.length hvc) Hs S sv fv nv X ++ l) w)(T:CX ex E c x S K d (ms X) σ)(hE:∀y,E y→(S.at y).isSome=true)(hX:X.length≤600)(hx:x≤2000)(hc6:c≤200)(o:ou)(ho:o.Ok)(hk:o.k % 10=8)(hHs:Hs=iZ S σ (ms X))(hHl:Hs.length=X.length)
  {m:MN}{n:Nd}(hm:lv (ms X) (o.iA X.length)=some m)(hn:S.at (σ (o.iA X.length))=some n)(hhd:Hs[o.iA X.length]? = some (S.hd (σ (o.iA X.length))))(hal:o.iA X.length < X.length) :
  Calls Tryz.prog 48 #[.pointer (some ⟨g,0,none⟩),.int .i64 (o.iA X.length:Int),.bool (decide (0 < o.n))] w fun e w'=>e=.returned (.bool true)∧E8 ex E c x B w0 l g R Q S K d (ms X) σ o (.returned (.tuple #[.slice none 0 0,.bool true])) w':=by
 have hD:=uD (hHs ▸ h) T hX hx ho
 have hA1:=(h.sO [.pointer (some ⟨g,0,none⟩)] 25).perm (List.perm_middle (l₁:=kK g R Q (.slice (some ⟨gh,0,none⟩) X.length hvc) Hs S sv fv nv X) (l₂:=l)).symm
 have HT:=ae T
 have HHs:=ae hHs
 have HHl:=ae hHl
 have HE:=ae hE
 have HHd:=ae hhd
 have HO:=ae ho
 have hHp:0 < X.length:=hD.pos
 have hai:(o.iA X.length:Int) < (X.length:Int):=by omega
 clear h T hHs hHl hE hhd ho
 generalize hdp:decide (0 < o.n)=deep
 refine(jP (n:=8)).1 ?_
 refine zZ Tryz.func48 rfl trivial ?_ rfl
 simp only [Tryz.ntmps48,gZ,List.length_cons,List.length_nil,Nat.reduceAdd,Nat.reduceSub,ji,Array.replicate_zero,jS,jE,List.nil_append,List.cons_append]
 refine wpIn_wide.2 ?_
 go_upto_region 1 with fail
 generalize w.alloc (.cells #[.pointer (some ⟨g,0,none⟩)] 25)=w1 at *
 have HA1:=ae hA1
 obtain⟨gh',e2,hghl,hgh⟩:=jk hA1 HHl.out _ _ HHd.out
 cases e2
 clear hA1
 haveI hne:Nonempty (dS (TK g R Q gh (o.iA X.length) w.heap.size (.slice (some ⟨gh,0,none⟩) X.length hvc) (S.hd (σ (o.iA X.length))))):=⟨⟨w1,Vk HA1.out hgh w1 (ak _ _)⟩⟩
 have y0:=fun(x:dS (TK g R Q gh (o.iA X.length) w.heap.size (.slice (some ⟨gh,0,none⟩) X.length hvc) (S.hd (σ (o.iA X.length)))))=>x.h.bk.cell 0
 have y2:=fun(x:dS (TK g R Q gh (o.iA X.length) w.heap.size (.slice (some ⟨gh,0,none⟩) X.length hvc) (S.hd (σ (o.iA X.length)))))=>x.h.bk.cell 2
 have y3:=fun(x:dS (TK g R Q gh (o.iA X.length) w.heap.size (.slice (some ⟨gh,0,none⟩) X.length hvc) (S.hd (σ (o.iA X.length)))))=>x.h.hc
 have y4:=fun(x:dS (TK g R Q gh (o.iA X.length) w.heap.size (.slice (some ⟨gh,0,none⟩) X.length hvc) (S.hd (σ (o.iA X.length)))))=>x.h.bx.cell 0
 simp only [fQ,fP] at y0 y2 y4
 refine qP (TK g R Q gh (o.iA X.length) w.heap.size (.slice (some ⟨gh,0,none⟩) X.length hvc) (S.hd (σ (o.iA X.length)))) (TF w1 (SY B w0 l g R Q w.heap.size (.slice (some ⟨gh,0,none⟩) X.length hvc) Hs nv X S K d (σ (o.iA X.length)) n deep)) (fun _ v=>∃h er,v=.tuple #[.int .i64 h,.int .i64 er]) 18 (by kernel_rfl) (by kernel_rfl) (Aj (Vk HA1.out hgh) (VJ HHl.out HHd.out)) (kL LU) (ak _ _) ?_
 simp only [mD,mr,l9,lZ]
 repeat (first
  | (refine RV.aN (by rfl) (by rfl) (fun K hK=>?_);go_big_quiet_step (fail);refine az ?_;refine hK.out _ ?_;clear hK K)
  | (refine RV.aK (by rfl) ?_;simp only [Act.put,dL,dK,dJ]))
 refine RV.dM (by rfl) (by rfl) (fun w=>by go_simp;exact⟨rfl,rfl⟩) (⟨_,0,0,rfl⟩) (fun X wx hx=>?_) (fun v hv=>?_)
 ·have hx2:Below w1.heap.size w1 wx:=hx
  have hA3:=HA1.out.still hx2
  have hT2:fZ 0 R S sv fv wx:=jF hA3
  have hcl:=Po hT2 HT.out.ok _ n hn hD.sl deep
  refine hcl.mono ?_
  rintro e wy ⟨S',sv',fv',h',er,hct,rfl,hTo⟩
  exact⟨_,rfl,⟨h',er,rfl⟩,S',sv',fv',h',er,rfl,hct,hTo.all hA3⟩
 obtain⟨h',er,rfl⟩:=hv
 simp only [Act.put,dL,dK,dJ]
 repeat (first
  | (refine RV.aN (by rfl) (by rfl) (fun K hK=>?_);go_big_quiet_step (fail);refine az ?_;refine hK.out _ ?_;clear hK K)
  | (refine RV.aK (by rfl) ?_;simp only [Act.put,dL,dK,dJ]))
 refine RV.eH ?_
 intro w5 hF
 obtain⟨S',sv',fv',h'',er',he,hres,hA5⟩:=hF
 simp only [gy,gK,iL,fG,iq,jX,je] at he
 obtain⟨rfl,rfl⟩:=he
 have HA5:=ae hA5
 have HRes:=ae hres
 clear y0 y2 y3 y4 hne hA5 hres hgh hghl
 obtain⟨gm,capm,rfl⟩:=(lG HA5.out).W.shape hHp
 have c0:=(zS HA5.out).cell 0
 have g0:=(bF HA5.out).cell 0
 have g1:=(bF HA5.out).cell 1
 have q0:=(lG HA5.out).W.ptr
 simp only [fQ,fP] at c0 g0 g1
 have HHas:=ae (BV HA5.out (o.iA X.length) (by omega) ⟨by omega,by omega⟩)
 rw [hm] at HHas
 go_wp2_with fail
 refine HHas.out.mono ?_
 rintro e w9 ⟨rfl,hw⟩
 rw [hw]
 clear hw
 go_wp2_with fail
 refine(Oh deep (HT.out.tw.mw HT.out.ok.lk) (fun f i m h=>TN HT.out.tw HT.out.ok.lk f i m h) (fun f i m h=>by have:=HT.out.tw.oz HT.out.ok.lk f h;have:=hD.sl;omega) (fun i m h=>by have:=HT.out.tw.ma i m h;omega) hm rfl (lG HA5.out) (by omega)).mono ?_
 rintro e w7 ⟨X',g',cap',en,rfl,hmc,hM7⟩
 have hA7:=hM7.VV HA5.out
 have HA7:=ae hA7
 have hboth:=Qz (B:=B) (w0:=w0) (l:=l) (g:=g) (R:=R) (Q:=Q) HT.out HE.out hX hx hk (by rw [aY];exact hm) (by rw [aY];exact hn) (by rw [aY,hdp];exact HRes.out) (by rw [aY,hdp];exact hmc)
 clear hmc hM7 hA7 c0 g0 g1 q0
 rw [← HHs.out] at hboth
 rcases hboth with ⟨rfl,rfl,rfl,hend⟩ | ⟨rfl,rfl,K',d',q,nq,rfl,hLk,hq,hXl,hwl,hend⟩
 ·have HEnd:=ae hend
  clear hend
  go_wp2_with fail
  refine⟨.bool true,?_,rfl,HEnd.out _ _ _ _ _ (HA7.out.sub ((Xb _ _).append_left _))⟩
  simp [results,Tryz.f48,go_sem]
 ·have HEnd:=ae hend
  have HLk:=ae hLk
  have HQ:=ae hq
  have HXl:=ae hXl
  clear hend hLk hq hXl
  have c0:=(zS HA7.out).cell 0
  have g0:=(bF HA7.out).cell 0
  simp only [fQ,fP] at c0 g0
  go_wp2_with fail
  refine(walk_any R (S'.hd q) w7).mono ?_
  rintro e w8 ⟨rfl,hw8⟩
  obtain⟨gs,caps,rfl⟩:=fO (jF HA7.out) (by have:=iy HQ.out;omega)
  have hA8:All B w0 (kK g R Q (.slice (some ⟨gh,0,none⟩) X.length hvc) Hs S' (.slice (some ⟨gs,0,none⟩) S'.slots.length caps) fv' (.slice (some ⟨g',0,none⟩) X'.length cap') X' ++ UK w.heap.size g :: l) w8:=by rw [hw8];exact(HA7.out.alloc _).alloc _
  have hBs:dD w8 w7.heap.size [.pointer (some ⟨R,0,none⟩)] 29:=by rw [hw8];exact(dD.new w7 [.pointer (some ⟨R,0,none⟩)] 29).alloc _
  have hBh:dD w8 (w7.heap.size+1) [.int .i64 (S'.hd q)] 3:=by
   have k2:=dD.new (w7.alloc (.cells #[.pointer (some ⟨R,0,none⟩)] 29)) [.int .i64 (S'.hd q)] 3
   rw [show(w7.alloc (.cells #[.pointer (some ⟨R,0,none⟩)] 29)).heap.size=w7.heap.size+1 by simp] at k2
   rw [hw8];exact k2
  have HA8:=ae hA8
  have HSq:=ae (fun m=>O7 (n:=m) (b:=g) (fun W k=>TP HA8.out W k) HLk.out nq HQ.out (Q8 HA8.out) hBs hBh)
  clear hw8 hA8 hBs hBh c0 g0
  go_wp2_with fail
  refine(wpIn_wide (n:=8)).1 ?_
  refine xE (fun x=>Ro (.int .i64 (S'.hd x))) (by omega) (gf:=73) (lb:=#[.pointer (some ⟨w7.heap.size,0,none⟩),.pointer (some ⟨w7.heap.size+1,0,none⟩)]) rfl (enters_of Tryz.func73 (by kernel_rfl) rfl) (HSq.out 7) EY.trans (fun W l o o' hl h hc _=>EY.Ue l o o' h hc (by have:=(bF HA8.out).lt;omega)) (fun _=>rfl)
   (fun pre W=>∃v,All B w0 (kK g R Q v (Hs ++ pre.map S'.hd) S' (.slice (some ⟨gs,0,none⟩) S'.slots.length caps) fv' (.slice (some ⟨g',0,none⟩) X'.length cap') X' ++ UK w.heap.size g :: l) W) (fun c pre W=>False) ?own (fun _ _ _ _ _ hs _ _=>hs) ⟨_,by simpa using HA8.out⟩ ?assign ?body ?done ?stop
  case own =>
   rintro pre W W' row ⟨v,hI⟩ hg hr
   exact⟨v,QC HA8.out hI hg hr⟩
  case assign =>
   intro l x W K hK
   gi_wp2
   exact hK
  case stop =>
   intro D c pre W hD hs hx
   cases hx
  case body =>
   rintro l' pre x W ⟨v,hI⟩ hlt
   obtain⟨Hq,hHq⟩:∃Hq,Hq=Hs ++ pre.map S'.hd:=⟨_,rfl⟩
   have hpl:Hq.length≤4000:=by
    rw [hHq,aA,HHl.out,bM];omega
   rw [← hHq] at hI
   have HPs:=ae (show Hs ++ (pre ++ [x]).map S'.hd=Hq ++ [S'.hd x] by rw [hHq];simp)
   clear hHq
   obtain⟨va,vc,rfl⟩:=aW (lL hI)
   have HI:=ae hI
   haveI hne:Nonempty (dS (Vp g R Q w.heap.size (.slice va Hq.length vc))):=⟨⟨W,bF hI,zS hI⟩⟩
   have y2:=fun(x:dS (Vp g R Q w.heap.size (.slice va Hq.length vc)))=>x.h.bk.cell 2
   have y3:=fun(x:dS (Vp g R Q w.heap.size (.slice va Hq.length vc)))=>x.h.bx.cell 0
   simp only [fQ,fP] at y2 y3
   clear hI hlt HSq
   simp only [Ro,dL,dK,dJ]
   refine wpIn_block ?_
   refine RZ.TV ⟨Vp g R Q w.heap.size (.slice va Hq.length vc),OZ W (.slice va Hq.length vc) Hq (S'.hd x),Wp Hq.length,fun _ _=>undef,fun _=>[],fun _=>0⟩ 10 (fun _=>trivial) rfl (fun f args w R h=>RZ.JI f args w R h) (by kernel_rfl) (by kernel_rfl) (by kernel_rfl) (fun k Y w' h=>U5 HI.out k Y w' h) (fun k Y w' cs ty h=>OZ.alloc k Y w' cs ty h) (fun k Y Z w' hp h=>OZ.perm k Y Z w' hp h) ((ak _ _).drew) ?_
   simp only [mD,mr,l9,lZ]
   repeat (first
    | (refine RZ.aN (by rfl) (by rfl) (fun K hK=>?_);go_big_quiet_step (fail);refine az ?_;refine hK.out _ ?_;clear hK K)
    | (refine RZ.aK (by rfl) ?_;simp only [Act.put,dL,dK,dJ]))
   refine RZ.Bz (by rfl) (by rfl) ⟨_,0,rfl⟩ ?_ ?_
   ·intro Y wx hx
    refine⟨.slice (some ⟨wx.heap.size,0,none⟩) 1 1,wx.alloc (.cells #[.int .i64 (S'.hd x)] 3),by go_simp,⟨_,rfl⟩,aV hx ((ak _ _).alloc (au _) _),⟨_,rfl⟩,?_⟩
    exact jg (n:=1) (size:=1) (dD.new wx [.int .i64 (S'.hd x)] 3) rfl (by omega)
   rintro v ⟨gk,rfl⟩
   simp only [Act.put,dL,dK,dJ]
   repeat (first
    | (refine RZ.aN (by rfl) (by rfl) (fun K hK=>?_);go_big_quiet_step (fail);refine az ?_;refine hK.out _ ?_;clear hK K)
    | (refine RZ.aK (by rfl) ?_;simp only [Act.put,dL,dK,dJ]))
   refine RZ.Bz (by rfl) (by rfl) ⟨_,none,0,rfl⟩ ?_ ?_
   ·intro Y wx hx
    obtain⟨hbx,_,hown⟩:=hx
    obtain⟨v',w',hr,ho,hg,hb⟩:=qE (ty:=31) sS (B:=0) (iD (bH (lL HI.out) hbx) (aZ _)) (aZ _) hown (by intro u hu;simp at hu;subst hu;rfl) (by omega) (by omega)
    obtain⟨na,nc2,rfl⟩:=bP ho
    refine⟨_,w',rH rfl rfl rfl hr,⟨na,nc2,rfl⟩,?_,ho,?_⟩
    ·exact(dU.of_below hbx).trans ((dU.refl (fun b=>(Value.slice va Hq.length vc).ownBlock=some b) wx).grown hg (fun k e _=>e)) (fun _ _ e=>e)
    ·rcases hb with e | e
     ·exact .inl e
     ·exact .inr (fun b hb'=>by rw [e] at hb';cases hb';exact hbx.size)
   rintro v ⟨na,nc2,rfl⟩
   simp only [Act.put,dL,dK,dJ]
   repeat (first
    | (refine RZ.aN (by rfl) (by rfl) (fun K hK=>?_);go_big_quiet_step (fail);refine az ?_;refine hK.out _ ?_;clear hK K)
    | (refine RZ.aK (by rfl) ?_;simp only [Act.put,dL,dK,dJ]))
   refine RZ.eH ?_
   intro w9 hC9
   have hR9:=U5 HI.out _ _ w9 hC9
   obtain⟨hch,hown,hvb⟩:=hC9
   obtain⟨hp1,hp2,hp3⟩:=TY HI.out hch hown hvb
   have HP1:=ae hp1
   have HP2:=ae hp2
   have HP3:=ae hp3
   have z2:=hR9.bk.cell 2
   simp only [fQ,fP] at z2
   have zl:=hR9.bk.lt
   have zf:=hR9.bk.free
   clear hp1 hp2 hp3 hch hown hvb hR9 y2 y3 hne
   gi_wp2
   exact⟨HP3.out,HP2.out,_,by rw [HPs.out];exact HP1.out⟩
  case done =>
   rintro D ys W hD rfl ⟨v,hI⟩ hK
   have hlen:(Hs ++ (dR K' (128 - d' q) q).map S'.hd).length=X'.length:=by rw [aA,HHl.out,bM,HXl.out]
   obtain⟨va,vc,hv⟩:=aW (lL hI)
   rw [hlen] at hv
   subst hv
   obtain⟨tl,htl⟩:=Dh K' (128 - d' q) q
   obtain⟨ghx,e2,_,hcell⟩:=jk hI hlen X.length (S'.hd q) (by rw [htl,bZ (by rw [HHl.out];exact au _),HHl.out,jY];rfl)
   cases e2
   have hxx:(X.length:Int) < (X'.length:Int):=by have:=HXl.out;rw [htl] at this;simp at this;omega
   have HI:=ae hI
   have HKD:=ae hK
   have hDl:D < W.heap.size:=hlt hK
   clear hI hlen htl HSq hK
   go_upto_region 11 with fail
   have hne:=gI W
   have y0:=fun(x:dS (jc W))=>(zS (HI.out.still x.h)).cell 0
   have y1:=fun(x:dS (jc W))=>(bF (HI.out.still x.h)).cell 1
   have y2:=fun(x:dS (jc W))=>(bF (HI.out.still x.h)).cell 2
   have y3:=fun(x:dS (jc W))=>(lG (HI.out.still x.h)).W.ptr
   have y4:=fun(x:dS (jc W))=>aU x.h hcell
   simp only [fQ,fP] at y0 y1 y2
   refine mW (fun _ _=>True) (fun _ _=>True) 26 (by kernel_rfl) (by kernel_rfl) (fun _ _ _ _ _=>trivial) trivial ?_
   simp only [mD,mr,l9,lZ]
   repeat (first
    | (refine RV.aN (by rfl) (by rfl) (fun K hK=>?_);go_big_quiet_step (fail);refine az ?_;refine hK.out _ ?_;clear hK K)
    | (refine RV.aK (by rfl) ?_;simp only [Act.put,dL,dK,dJ]))
   refine RV.eH ?_
   intro w11 hb11 _
   have hb11:Below W.heap.size W w11:=hb11
   have HI11:=ae (HI.out.still hb11)
   have HK11:=ae ((hb11.block D hDl).trans HKD.out)
   clear y0 y1 y2 y3 y4 hne hb11 hcell
   go_wp2_with fail
   refine DL HK11.out ?_
   refine⟨.bool true,?_,rfl,HEnd.out _ _ _ _ _ ((QC HA8.out HI11.out (grownBy_putObj' w11 D _) (fun k e=>by cases e;exact⟨hD,_,HK11.out,rfl⟩)).sub ((Xb _ _).append_left _))⟩
   simp [results,Tryz.f48,go_sem]
end Go.Proofs.YtfelmdkeaacfeaaGreatDoor.W
end
section
namespace Go.Proofs.YtfelmdkeaacfeaaGreatDoor.W
open Go.RowKit
theorem UF {ex:Prop}{E:Nat→Prop}{c x:Nat}{B:Nat}{w0 w:World}{l:List Ob}{g R Q:Nat}{hv sv fv nv:Value}{S:Tr}{K:Nat→List Nat}{d:Nat→Nat}{X:List MX}{σ : Nat→Nat}
  (hLd:Laid w)(h:All B w0 (kK g R Q hv (iZ S σ (ms X)) S sv fv nv X ++ l) w)(T:CX ex E c x S K d (ms X) σ)(hX:X.length≤600)(hx:x≤2000)(hce:ex→c≤60)(hc6:c≤200)(o:ou)(ho:o.Ok)(hk:o.k % 10=8)
  (hE:∀y,E y→(S.at y).isSome=true) :
  Calls Tryz.prog 13 #[.pointer (some ⟨g,0,none⟩),.agg (opC o).toArray] w (E8 ex E c x B w0 l g R Q S K d (ms X) σ o):=by
 have hD:=uD h T hX hx ho
 obtain⟨Hs,hHs⟩:∃Hs,Hs=iZ S σ (ms X):=⟨_,rfl⟩
 rw [← hHs] at h
 have hHl:Hs.length=X.length:=by rw [hHs,jJ,aY]
 have hHp:0 < X.length:=hD.pos
 obtain⟨hva,hvc,hvv⟩:=aW (lL h)
 rw [hHl] at hvv
 subst hvv
 have HAl:=ae h
 have HT:=ae T
 have HO:=ae ho
 have HHs:=ae hHs
 have HHl:=ae hHl
 have HLd:=ae hLd
 have hbk:=bF h
 have g1:=hbk.cell 1
 have g2:=hbk.cell 2
 simp only [fQ,fP] at g1 g2
 have hgl:=hbk.lt
 have hgz:=hbk.free
 have hb1:=(ak w.heap.size w).alloc (au _) (.cells (opC o).toArray 39)
 have k1:=dD.new w (opC o) 39
 have hra:(o.a:Int) % (X.length:Int)=((o.iA X.length:Nat):Int):=rfl
 have hrb:(o.b:Int) % (X.length:Int)=((o.iB X.length:Nat):Int):=rfl
 have hrc:=ru o (n:=X.length) (by omega)
 have hrk:(o.k:Int) % 10=8:=by omega
 have hal:o.iA X.length < X.length:=jr _ hHp
 have hbl:o.iB X.length < X.length:=jr _ hHp
 have hn0:¬(X.length:Int)=0:=by omega
 have hn1:¬(X.length:Int)+1=0:=by omega
 have hoa:=ho.a
 have hwn:wrap64 o.n=o.n:=XU _ (by have:=ho.n;omega)
 have hob:=ho.b
 have hoc:=ho.c
 have hok:=ho.k
 have HHas:=ae (fun wx (hb:Below w.heap.size w wx) i (hi:i≤1000000)=>BV (h.still hb) i hi (by have:=hD.pos;omega))
 clear h T ho hHs hbk hLd
 simp only [opC] at k1 hb1 ⊢
 go_enter Tryz.func13,Tryz.ntmps13
 go_upto_region 2 with fail
 generalize w.alloc (.cells #[.int .u8 o.k,.int .u8 o.a,.int .u8 o.b,.int .u8 o.c,.string ⟨o.s.toArray⟩,.string ⟨o.t.toArray⟩,.int .i8 o.n,.int .i8 o.kk] 39)=w1 at *
 have hne:=gI w1
 have x1:=fun(x:dS (jc w1))=>(k1.below x.h).cell 1
 have x2:=fun(x:dS (jc w1))=>(k1.below x.h).cell 2
 have x3:=fun(x:dS (jc w1))=>(k1.below x.h).cell 3
 simp only [fQ,fP] at x1 x2 x3
 refine mW (fun _ _=>True) (fun _ _=>True) 20 (by kernel_rfl) (by kernel_rfl) (fun _ _ _ _ _=>trivial) trivial ?_
 simp only [mD,mr,l9,lZ]
 repeat (first
  | (refine RV.aN (by rfl) (by rfl) (fun K hK=>?_);go_big_quiet_step (fail);refine az ?_;refine hK.out _ ?_;clear hK K)
  | (refine RV.aK (by rfl) ?_;simp only [Act.put,dL,dK,dJ]))
 refine RV.eH ?_
 intro w2 hb2' _
 have HB2:=ae (aV hb1 hb2')
 have HK2:=ae (k1.below hb2')
 clear x1 x2 x3 hne hb1 hb2' k1 g1 g2 hHl
 rw [hra,hrb,hrc]
 have HA2:=ae (HAl.out.still HB2.out)
 have c0:=HK2.out.cell 0
 have c6:=HK2.out.cell 6
 have g1:=(bF HA2.out).cell 1
 have g2:=(bF HA2.out).cell 2
 simp only [fQ,fP] at c0 c6 g1 g2
 have hgl2:=(bF HA2.out).lt
 have hgz2:=(bF HA2.out).free
 have hxl2:=HK2.out.lt
 clear hgl hgz
 go_wp2_with fail
 refine(HHas.out w2 HB2.out _ (by omega)).mono ?_
 rintro e w3 ⟨rfl,hw⟩
 rw [hw]
 clear hw
 obtain⟨hd,hhd,hho,hcase⟩:=zI HT.out (i:=o.iA X.length) (by rw [aY];exact hal)
 rw [← HHs.out] at hhd
 obtain⟨gh,rfl,hghl,hgh⟩:=jk HA2.out HHl.out _ _ hhd
 have hai:(o.iA X.length:Int) < (X.length:Int):=by omega
 rcases hcase with ⟨m,n,hm,hn,rfl⟩ | ⟨hm,rfl,hix⟩
 case inr =>
  rw [hm]
  go_wp2_with fail
  refine(OG HA2.out HHl.out _ hal (by omega) hhd hix hm _).mono ?_
  rintro e w5 ⟨rfl,hA5⟩
  have HA5:=ae hA5
  clear hA5
  go_wp2_with fail
  go_ret2
  exact uC HT.out HA5.out HHs.out (by omega) (.inl (by rw [aY];exact hm)) (by omega)
 case inl =>
  rw [hm]
  go_wp2_with fail
  refine(OE HA2.out HT.out hE hX hx hc6 o HO.out hk HHs.out HHl.out hm hn hhd hal).mono ?_
  rintro e w5 ⟨rfl,hR⟩
  have HR:=ae hR
  clear hR
  go_wp2_with fail
  go_ret2
  exact HR.out
theorem UE {ex:Prop}{E:Nat→Prop}{c x:Nat}{B:Nat}{w0 w:World}{l:List Ob}{g R Q:Nat}{hv sv fv nv:Value}{S:Tr}{K:Nat→List Nat}{d:Nat→Nat}{X:List MX}{σ : Nat→Nat}
  (hLd:Laid w)(h:All B w0 (kK g R Q hv (iZ S σ (ms X)) S sv fv nv X ++ l) w)(T:CX ex E c x S K d (ms X) σ)(hX:X.length≤600)(hx:x≤2000)(hce:ex→c≤60)(hc6:c≤200)(o:ou)(ho:o.Ok)(hk:o.k % 10=9) :
  Calls Tryz.prog 13 #[.pointer (some ⟨g,0,none⟩),.agg (opC o).toArray] w (E8 ex E c x B w0 l g R Q S K d (ms X) σ o):=by
 have hD:=uD h T hX hx ho
 obtain⟨Hs,hHs⟩:∃Hs,Hs=iZ S σ (ms X):=⟨_,rfl⟩
 rw [← hHs] at h
 have hHl:Hs.length=X.length:=by rw [hHs,jJ,aY]
 have hHp:0 < X.length:=hD.pos
 obtain⟨hva,hvc,hvv⟩:=aW (lL h)
 rw [hHl] at hvv
 subst hvv
 have HAl:=ae h
 have HT:=ae T
 have HO:=ae ho
 have HHs:=ae hHs
 have HHl:=ae hHl
 have HLd:=ae hLd
 have hbk:=bF h
 have g1:=hbk.cell 1
 have g2:=hbk.cell 2
 simp only [fQ,fP] at g1 g2
 have hgl:=hbk.lt
 have hgz:=hbk.free
 have hb1:=(ak w.heap.size w).alloc (au _) (.cells (opC o).toArray 39)
 have k1:=dD.new w (opC o) 39
 have hra:(o.a:Int) % (X.length:Int)=((o.iA X.length:Nat):Int):=rfl
 have hrb:(o.b:Int) % (X.length:Int)=((o.iB X.length:Nat):Int):=rfl
 have hrc:=ru o (n:=X.length) (by omega)
 have hrk:(o.k:Int) % 10=9:=by omega
 have hal:o.iA X.length < X.length:=jr _ hHp
 have hbl:o.iB X.length < X.length:=jr _ hHp
 have hn0:¬(X.length:Int)=0:=by omega
 have hn1:¬(X.length:Int)+1=0:=by omega
 have hoa:=ho.a
 have hob:=ho.b
 have hoc:=ho.c
 have hok:=ho.k
 have HHas:=ae (fun wx (hb:Below w.heap.size w wx) i (hi:i≤1000000)=>BV (h.still hb) i hi (by have:=hD.pos;omega))
 clear h T ho hHs hbk hLd
 simp only [opC] at k1 hb1 ⊢
 go_enter Tryz.func13,Tryz.ntmps13
 go_upto_region 2 with fail
 generalize w.alloc (.cells #[.int .u8 o.k,.int .u8 o.a,.int .u8 o.b,.int .u8 o.c,.string ⟨o.s.toArray⟩,.string ⟨o.t.toArray⟩,.int .i8 o.n,.int .i8 o.kk] 39)=w1 at *
 have hne:=gI w1
 have x1:=fun(x:dS (jc w1))=>(k1.below x.h).cell 1
 have x2:=fun(x:dS (jc w1))=>(k1.below x.h).cell 2
 have x3:=fun(x:dS (jc w1))=>(k1.below x.h).cell 3
 simp only [fQ,fP] at x1 x2 x3
 refine mW (fun _ _=>True) (fun _ _=>True) 20 (by kernel_rfl) (by kernel_rfl) (fun _ _ _ _ _=>trivial) trivial ?_
 simp only [mD,mr,l9,lZ]
 repeat (first
  | (refine RV.aN (by rfl) (by rfl) (fun K hK=>?_);go_big_quiet_step (fail);refine az ?_;refine hK.out _ ?_;clear hK K)
  | (refine RV.aK (by rfl) ?_;simp only [Act.put,dL,dK,dJ]))
 refine RV.eH ?_
 intro w2 hb2' _
 have HB2:=ae (aV hb1 hb2')
 have HK2:=ae (k1.below hb2')
 clear x1 x2 x3 hne hb1 hb2' k1 g1 g2 hHl
 rw [hra,hrb,hrc]
 have HA2:=ae (HAl.out.still HB2.out)
 have c0:=HK2.out.cell 0
 have g1:=(bF HA2.out).cell 1
 have g2:=(bF HA2.out).cell 2
 simp only [fQ,fP] at c0 g1 g2
 have hgl2:=(bF HA2.out).lt
 have hgz2:=(bF HA2.out).free
 have hxl2:=HK2.out.lt
 clear hgl hgz
 go_wp2_with fail
 refine(HHas.out w2 HB2.out _ (by omega)).mono ?_
 rintro e w3 ⟨rfl,hw⟩
 rw [hw]
 clear hw
 obtain⟨hd,hhd,hho,hcase⟩:=zI HT.out (i:=o.iA X.length) (by rw [aY];exact hal)
 rw [← HHs.out] at hhd
 obtain⟨gh,rfl,hghl,hgh⟩:=jk HA2.out HHl.out _ _ hhd
 have hai:(o.iA X.length:Int) < (X.length:Int):=by omega
 rcases hcase with ⟨m,n,hm,hn,rfl⟩ | ⟨hm,rfl,hix⟩
 case inr =>
  rw [hm]
  go_upto_region 8 with fail
  have hne:=gI w2
  have y0:=fun(x:dS (jc w2))=>(bF (HA2.out.still x.h)).cell 0
  have y2:=fun(x:dS (jc w2))=>(bF (HA2.out.still x.h)).cell 2
  have y3:=fun(x:dS (jc w2))=>aU x.h hgh
  simp only [fQ,fP] at y0 y2
  refine mW (fun _ _=>True) (fun _ v=>v=.int .i64 6) 13 (by kernel_rfl) (by kernel_rfl) (fun _ _ _ _ _=>trivial) trivial ?_
  simp only [mD,mr,l9,lZ]
  repeat (first
   | (refine RV.aN (by rfl) (by rfl) (fun K hK=>?_);go_big_quiet_step (fail);refine az ?_;refine hK.out _ ?_;clear hK K)
   | (refine RV.aK (by rfl) ?_;simp only [Act.put,dL,dK,dJ]))
  refine RV.dM (by rfl) (by rfl) (fun w=>by go_simp;exact⟨rfl,rfl⟩) (⟨_,rfl⟩) (fun X wx hx=>?_) (fun v hv=>?_)
  ·refine(J8 (jF (HA2.out.still hx.1)) (-1) hho hix).mono ?_
   rintro e wy ⟨rfl,hb⟩
   exact⟨_,rfl,rfl,aV hx.1 hb,trivial⟩
  obtain rfl:v=.int .i64 6:=hv
  simp only [Act.put,dL,dK,dJ]
  repeat (first
   | (refine RV.aN (by rfl) (by rfl) (fun K hK=>?_);go_big_quiet_step (fail);refine az ?_;refine hK.out _ ?_;clear hK K)
   | (refine RV.aK (by rfl) ?_;simp only [Act.put,dL,dK,dJ]))
  refine RV.eH ?_
  intro w5 hb5 _
  have HA5:=ae (HA2.out.still hb5)
  clear y0 y2 y3 hne hb5
  have HA7:=ae HA5.out
  clear hgl2 hgz2 hghl hgh
  go_wp2_with fail
  go_loopw [40] (fun iv wr=>Vo B w0 l g R Q gh X.length hvc Hs S sv fv nv X iv wr) (fun iv _=>X.length - iW iv)
  case atStart=>exact⟨0,aZ _,rfl,by rw [Ff];exact HA7.out⟩
  case round =>
   obtain⟨i,hi,rfl,hAi⟩:=hrel
   have HAi:=ae hAi
   clear hrk
   have q1:=(bF hAi).cell 1
   have q2:=(bF hAi).cell 2
   simp only [fQ,fP] at q1 q2
   have qgl:=(bF hAi).lt
   have qgz:=(bF hAi).free
   by_cases hil:i < X.length
   ·have HHi:=ae (BV hAi i (by omega) ⟨by omega,by omega⟩)
    have hii:(i:Int) < (X.length:Int):=by omega
    have hul:(qC (ms X) i Hs).length=X.length:=by rw [IE];exact HHl.out
    obtain⟨gh',e2,hghl',hci⟩:=jk hAi hul i ((qC (ms X) i Hs).getD i 0) (by rw [dV,ay (by rw [hul];exact hil)];rfl)
    cases e2
    have hown:=lL hAi
    rw [hul] at hown
    have hfz:=hown.frozenAt i
    clear hown
    have HUl:=ae hul
    generalize (qC (ms X) i Hs).getD i 0=ov at *
    clear hAi hul
    cases hlv:lv (ms X) i with
    | some mi =>
     rw [hlv] at HHi
     have HU:=ae (Fg hlv Hs)
     clear hlv
     go_wp2_with fail
     refine HHi.out.mono ?_
     rintro e w9 ⟨rfl,hw⟩
     rw [hw]
     clear hw
     go_wp2_with fail
     go_roundw
     case rel=>exact⟨i+1,by omega,by go_num,by rw [HU.out];exact HAi.out⟩
     case measure=>simp [iW];omega
    | none =>
     rw [hlv] at HHi
     have HU:=ae (Fh hlv Hs (by rw [HHl.out];exact hil))
     clear hlv
     go_wp2_with fail
     refine HHi.out.mono ?_
     rintro e w9 ⟨rfl,hw⟩
     rw [hw]
     clear hw
     go_wp2_with fail
     go_roundw
     case rel=>exact⟨i+1,by omega,by go_num,by rw [HU.out];exact Fj HAi.out HUl.out i (-1)⟩
     case measure=>simp [iW];omega
   ·obtain rfl:i=X.length:=by omega
    clear hAi q1 q2 qgl qgz
    go_wp2_with fail
    go_ret2
    exact SA HT.out HAi.out HHs.out hk (by rw [aY];exact hm)
 case inl =>
  rw [hm]
  go_upto_region 8 with fail
  haveI hne:Nonempty (dS (wu g R Q gh (o.iA X.length) w.heap.size (.slice (some ⟨gh,0,none⟩) X.length hvc) (S.hd (σ (o.iA X.length))) o)):=⟨⟨w2,rJ HA2.out HK2.out hgh w2 (ak _ _)⟩⟩
  have y0:=fun(x:dS (wu g R Q gh (o.iA X.length) w.heap.size (.slice (some ⟨gh,0,none⟩) X.length hvc) (S.hd (σ (o.iA X.length))) o))=>x.h.bk.cell 0
  have y2:=fun(x:dS (wu g R Q gh (o.iA X.length) w.heap.size (.slice (some ⟨gh,0,none⟩) X.length hvc) (S.hd (σ (o.iA X.length))) o))=>x.h.bk.cell 2
  have y3:=fun(x:dS (wu g R Q gh (o.iA X.length) w.heap.size (.slice (some ⟨gh,0,none⟩) X.length hvc) (S.hd (σ (o.iA X.length))) o))=>x.h.hc
  simp only [opC,fQ,fP] at y0 y2
  refine qP (wu g R Q gh (o.iA X.length) w.heap.size (.slice (some ⟨gh,0,none⟩) X.length hvc) (S.hd (σ (o.iA X.length))) o) (TF w2 (SX B w0 l g R Q (.slice (some ⟨gh,0,none⟩) X.length hvc) Hs nv X w.heap.size o S K d (σ (o.iA X.length)) n)) (fun _ v=>∃er,v=.int .i64 er) 13 (by kernel_rfl) (by kernel_rfl) (Aj (rJ HA2.out HK2.out hgh) (Uy HHl.out hhd)) (kL LP) (ak _ _) ?_
  simp only [mD,mr,l9,lZ]
  repeat (first
   | (refine RV.aN (by rfl) (by rfl) (fun K hK=>?_);go_big_quiet_step (fail);refine az ?_;refine hK.out _ ?_;clear hK K)
   | (refine RV.aK (by rfl) ?_;simp only [Act.put,dL,dK,dJ]))
  refine RV.dM (by rfl) (by rfl) (fun w=>by go_simp;exact⟨rfl,rfl⟩) (⟨_,0,rfl⟩) (fun X wx hx=>?_) (fun v hv=>?_)
  ·have hx2:Below w2.heap.size w2 wx:=hx
   have hA3:=HA2.out.still hx2
   have hk3:=HK2.out.below hx2
   have hT2:fZ 0 R S sv fv wx:=jF hA3
   have hcl:=Pn hT2 HT.out.ok _ n hn hD.sl
   refine hcl.mono ?_
   rintro e wy ⟨S',sv',fv',er,hdt,rfl,hTo⟩
   exact⟨_,rfl,⟨er,rfl⟩,S',sv',fv',er,rfl,hdt,hTo.all hA3,Ep hk3 hTo hT2⟩
  obtain⟨er,rfl⟩:=hv
  simp only [Act.put,dL,dK,dJ]
  repeat (first
   | (refine RV.aN (by rfl) (by rfl) (fun K hK=>?_);go_big_quiet_step (fail);refine az ?_;refine hK.out _ ?_;clear hK K)
   | (refine RV.aK (by rfl) ?_;simp only [Act.put,dL,dK,dJ]))
  refine RV.eH ?_
  intro w5 hF
  obtain⟨S',sv',fv',er',he,hres,hA5,hK5⟩:=hF
  obtain rfl:er=er':=by simpa using he
  clear he
  have HA5:=ae hA5
  have HK5:=ae hK5
  have HRes:=ae hres
  clear y0 y2 y3 hne hA5 hK5 hres
  obtain⟨gm,capm,rfl⟩:=(lG HA5.out).W.shape hHp
  have g1':=(bF HA5.out).cell 1
  simp only [fQ,fP] at g1'
  have hgl5:=(bF HA5.out).lt
  have hgz5:=(bF HA5.out).free
  go_wp2_with fail
  refine(Oc (lG HA5.out) (HT.out.tw.mw HT.out.ok.lk) (fun f i m h=>by have:=HT.out.tw.oz HT.out.ok.lk f h;have:=hD.sl;omega) (fun f i m h=>HT.out.tw.qO f i m h) hm).mono ?_
  rintro e w7 ⟨X',en,hmd,rfl,hM7⟩
  have HA7:=ae (hM7.VV HA5.out)
  have hBo:=QO HT.out.ok HT.out.tw HT.out.cl hm hn HRes.out hmd
  obtain⟨hee,hBo⟩:=hBo
  subst hee
  have hXl:X'.length=X.length:=by
   obtain⟨_,_,_,_,_,_,_,_,_,h,_⟩:=hBo
   rw [aY,aY] at h;exact h
  have HBo:=ae hBo
  have HMd:=ae hmd
  have HXl:=ae hXl
  clear hmd hM7 hBo g1' hgl5 hgz5 hgl2 hgz2 hghl hgh
  go_wp2_with fail
  go_loopw [40] (fun iv wr=>Vo B w0 l g R Q gh X.length hvc Hs S' sv' fv' (.slice (some ⟨gm,0,none⟩) X'.length capm) X' iv wr) (fun iv _=>X.length - iW iv)
  case atStart=>exact⟨0,aZ _,rfl,by rw [Ff];exact HA7.out⟩
  case round =>
   obtain⟨i,hi,rfl,hAi⟩:=hrel
   have HAi:=ae hAi
   clear hrk
   have q1:=(bF hAi).cell 1
   have q2:=(bF hAi).cell 2
   simp only [fQ,fP] at q1 q2
   have qgl:=(bF hAi).lt
   have qgz:=(bF hAi).free
   by_cases hil:i < X.length
   ·have HHi:=ae (BV hAi i (by omega) ⟨by omega,by omega⟩)
    have hii:(i:Int) < (X.length:Int):=by omega
    have hul:(qC (ms X') i Hs).length=X.length:=by rw [IE];exact HHl.out
    obtain⟨gh',e2,hghl',hci⟩:=jk hAi hul i ((qC (ms X') i Hs).getD i 0) (by rw [dV,ay (by rw [hul];exact hil)];rfl)
    cases e2
    have hown:=lL hAi
    rw [hul] at hown
    have hfz:=hown.frozenAt i
    clear hown
    have HUl:=ae hul
    generalize (qC (ms X') i Hs).getD i 0=ov at *
    clear hAi hul
    cases hlv:lv (ms X') i with
    | some mi =>
     rw [hlv] at HHi
     have HU:=ae (Fg hlv Hs)
     clear hlv
     go_wp2_with fail
     refine HHi.out.mono ?_
     rintro e w9 ⟨rfl,hw⟩
     rw [hw]
     clear hw
     go_wp2_with fail
     go_roundw
     case rel=>exact⟨i+1,by omega,by go_num,by rw [HU.out];exact HAi.out⟩
     case measure=>simp [iW];omega
    | none =>
     rw [hlv] at HHi
     have HU:=ae (Fh hlv Hs (by rw [HHl.out];exact hil))
     clear hlv
     go_wp2_with fail
     refine HHi.out.mono ?_
     rintro e w9 ⟨rfl,hw⟩
     rw [hw]
     clear hw
     go_wp2_with fail
     go_roundw
     case rel=>exact⟨i+1,by omega,by go_num,by rw [HU.out];exact Fj HAi.out HUl.out i (-1)⟩
     case measure=>simp [iW];omega
   ·obtain rfl:i=X.length:=by omega
    clear hAi q1 q2 qgl qgz
    have HMq:=ae (um (ts:=[]) (rs:=[]) (S:=S') (σ:=σ) (M:=ms X') (v:=.slice none 0 0) (v2:=.slice none 0 0) (HAi.out.nil _ _) (Rh HHs.out HBo.out) (by rw [aY];have:=HXl.out;omega) (by simp) (.same rfl (by simp)) (aG _ _ _ _))
    go_wp2_with fail
    refine HMq.out.mono ?_
    rintro e w8 ⟨bq,rfl,hbq,hb8⟩
    have HA8:=ae (HAi.out.still hb8)
    obtain rfl:bq=true:=hbq rfl
    clear hb8 hbq
    go_wp2_with fail
    go_ret2
    exact Sr HT.out HA8.out HHs.out hk hm HXl.out HBo.out HMd.out
end Go.Proofs.YtfelmdkeaacfeaaGreatDoor.W
end
