/- Texts joined: DoN DoK. -/
import Derived.Test.YtfelmdkeaacfeaaGreatDoorTB1
import Derived.Test.YtfelmdkeaacfeaaGreatDoorTB34
set_option maxRecDepth 100000
set_option maxHeartbeats 40000000
set_option linter.unusedVariables false
set_option linter.unusedSimpArgs false
section
namespace Go.Proofs.YtfelmdkeaacfeaaGreatDoor.W
open Go.RowKit
section
variable {B : Nat} {w0 w w' : World} {l : List Ob} {g R Q b : Nat} {hv sv fv nv : Value} {S : Tr} {X : List MX} {Hs : List Int} {o : ou} {x : Ob}
theorem RH {kind:Int}{name data:List UInt8}{al:List jR}{e:Ending}(h:sW 0 R S sv fv w kind name data al e w')(hfr:∀i∈S.free,S.slots[i]? = some none)(hnd:S.free.Nodup):∃S' sv' fv' h er,uX w.heap.size S kind name data al S' h er∧e=.returned (.tuple #[.int .i64 h,.int .i64 er])∧qh R S sv fv w S' sv' fv' w':=by
 obtain⟨S',sv',fv',h,er,hm,he,hT,hC,h1,h2⟩:=h
 refine⟨S',sv',fv',h,er,hm,he,hT,hC.mono (fun k _ hk=>hk.imp id .inl),fun k hk=>?_⟩
 rcases hk with rfl | hk | hk | ⟨i,n,hi,ha,hk⟩
 ·exact .inl (.inl rfl)
 ·rcases h1 with e | ⟨q,e,hq⟩
  ·exact .inl (.inr (.inl (by rw [← e];exact hk)))
  ·rw [e] at hk;cases hk;exact .inr hq
 ·exact .inl (.inr (.inr (.inl (by rw [← h2];exact hk))))
 ·have old:S'.at i=S.at i→yR R S sv fv k∨w.heap.size≤k:=fun e=>.inl (.inr (.inr (.inr ⟨i,n,by rw [← e];exact hi,ha,hk⟩)))
  cases hm with
  | kind _ _ _=>exact old rfl
  | arg _ _=>exact old rfl
  | many _ _ _=>exact old rfl
  | el av e hb hl hf =>
   have kk:=oL hfr hnd (BQ 2 name av (al.map fun a=>(a.1,fix a.2)) [])
   by_cases e:i=S.mV
   ·rw [kk.at_,aC e] at hi
    cases hi
    exact .inr (hf k hk)
   ·exact old (by rw [kk.at_,ax e])
  | tx e =>
   have kk:=oL hfr hnd (BQ kind [] (.slice none 0 0) [] (fix data))
   by_cases e:i=S.mV
   ·rw [kk.at_,aC e] at hi
    cases hi
    exact absurd rfl ha
   ·exact old (by rw [kk.at_,ax e])
theorem qh.all1 {S':Tr}{sv' fv':Value}(k:qh R S sv fv w S' sv' fv' w')(h:All B w0 (x :: (kK g R Q hv Hs S sv fv nv X ++ l)) w):All B w0 (x :: (kK g R Q hv Hs S' sv' fv' nv X ++ l)) w' :=
 h.step [x,bk g [.pointer (some ⟨R,0,none⟩),.pointer (some ⟨Q,0,none⟩),hv] 33,sl 3 1 hv Hs.length (hC Hs)] (o:=Bg R S sv fv) (o':=Bg R S' sv' fv') (l2:=ui Q nv X :: l) k.at_ k.qU k.new
def Ul (v:Value)(o:ou):Ob:=sl 92 2 v (og o).length (cu (og o))
def OT (B:Nat)(w0:World)(l:List Ob)(g R Q:Nat)(hv:Value)(Hs:List Int)(S:Tr)(nv:Value)(X:List MX)(b:Nat)(o:ou)(va:Value)(v:Value)(w':World):Prop :=
 ∃W0 S' sv' fv' h er,v=.tuple #[.int .i64 h,.int .i64 er]∧uX W0 S ((2+o.k % 10:Nat):Int) o.s o.t (og o) S' h er∧All B w0 (Ul va o :: (kK g R Q hv Hs S' sv' fv' nv X ++ l)) w'∧dD w' b (opC o) 39
theorem D7 {va:Value}(v:Value)(w1 w2:World)(h:OT B w0 l g R Q hv Hs S nv X b o va v w1)(hb:Below w1.heap.size w1 w2):OT B w0 l g R Q hv Hs S nv X b o va v w2:=by
 obtain⟨W0,S',sv',fv',h,er,e,hr,hA,hk⟩:=h
 exact⟨W0,S',sv',fv',h,er,e,hr,hA.still hb,hk.below hb⟩
theorem Nb {va:Value}(hA:All B w0 (Ul va o :: (kK g R Q hv Hs S sv fv nv X ++ l)) w)(hk:dD w b (opC o) 39)(hfr:∀i∈S.free,S.slots[i]? = some none)(hnd:S.free.Nodup){e:Ending}(h:sW 0 R S sv fv w ((2+o.k % 10:Nat):Int) o.s o.t (og o) e w'):∃v,e=.returned v∧(∃h er,v=.tuple #[.int .i64 h,.int .i64 er])∧OT B w0 l g R Q hv Hs S nv X b o va v w':=by
 obtain⟨S',sv',fv',h,er,hm,rfl,hTo⟩:=RH h hfr hnd
 exact⟨_,rfl,⟨_,_,rfl⟩,_,S',sv',fv',_,er,rfl,hm,hTo.all1 hA,Ep hk hTo (jF hA.tail)⟩
theorem Qb {va:Value}(v:Value)(w':World)(h:OT B w0 l g R Q hv Hs S nv X b o va v w'):uZ g R Q b hv o w':=by
 obtain⟨W0,S',sv',fv',h,er,e,hr,hA,hk⟩:=h
 exact⟨bF hA.tail,hk⟩
def OU (B:Nat)(w0:World)(l:List Ob)(g R Q:Nat)(hv:Value)(Hs:List Int)(S:Tr)(sv fv:Value)(X:List MX)(b:Nat)(o:ou)(va:Value)(v:Value)(w':World):Prop :=
 ∃X' gm cap en,v=.int .i64 en∧Cf (ms X) ((2+o.k % 10:Nat):Int) o.s o.t (og o) (ms X') en∧All B w0 (Ul va o :: (kK g R Q hv Hs S sv fv (.slice (some ⟨gm,0,none⟩) X'.length cap) X' ++ l)) w'∧dD w' b (opC o) 39
theorem D8 {va:Value}(v:Value)(w1 w2:World)(h:OU B w0 l g R Q hv Hs S sv fv X b o va v w1)(hb:Below w1.heap.size w1 w2):OU B w0 l g R Q hv Hs S sv fv X b o va v w2:=by
 obtain⟨X',gm,cap,en,e,hr,hA,hk⟩:=h
 exact⟨X',gm,cap,en,e,hr,hA.still hb,hk.below hb⟩
theorem Nc {va:Value}{gm cap:Nat}(hA:All B w0 (Ul va o :: (kK g R Q hv Hs S sv fv (.slice (some ⟨gm,0,none⟩) X.length cap) X ++ l)) w)(hk:dD w b (opC o) 39){e:Ending}(h:Nz Q gm cap X w ((2+o.k % 10:Nat):Int) o.s o.t (og o) e w'):∃v,e=.returned v∧(∃en,v=.int .i64 en)∧OU B w0 l g R Q hv Hs S sv fv X b o va v w':=by
 obtain⟨X',gm',cap',en,hm,rfl,hM⟩:=h
 exact⟨_,rfl,⟨_,rfl⟩,X',gm',cap',en,rfl,hm,hM.tw hA,FX hk (lG hA.tail) hM⟩
theorem Qc {va:Value}(v:Value)(w':World)(h:OU B w0 l g R Q hv Hs S sv fv X b o va v w'):uZ g R Q b hv o w':=by
 obtain⟨X',gm,cap,en,e,hr,hA,hk⟩:=h
 exact⟨bF hA.tail,hk⟩
theorem Gx {v8:Value}{hh:Int}(h:All B w0 ([bk g [.pointer (some ⟨R,0,none⟩),.pointer (some ⟨Q,0,none⟩),hv] 33] ++ sl 3 1 v8 (Hs.length+1) (hC Hs ++ [.int .i64 hh]) :: ([Bg R S sv fv,ui Q nv X] ++ l)) w):All B w0 (kK g R Q v8 (Hs ++ [hh]) S sv fv nv X ++ l) (w.setCell ⟨g,2,none⟩ v8):=by
 have h1:=h.U4 [] 2 v8
 unfold kK
 rw [aA,show hC (Hs ++ [hh])=hC Hs ++ [.int .i64 hh] by unfold hC;rw [ig];rfl]
 exact h1
end
theorem Qw {kk:Nat}(hkk:kk=0∨kk=1∨kk=2){ex:Prop}{E:Nat→Prop}{c x:Nat}{B:Nat}{w0 w:World}{l:List Ob}{g R Q:Nat}{hv sv fv nv:Value}{S:Tr}{K:Nat→List Nat}{d:Nat→Nat}{X:List MX}{σ : Nat→Nat}
  (hLd:Laid w)(h:All B w0 (kK g R Q hv (iZ S σ (ms X)) S sv fv nv X ++ l) w)(T:CX ex E c x S K d (ms X) σ)(hX:X.length≤600)(hx:x≤2000)(hce:ex→c≤60)(hc6:c≤200)(o:ou)(ho:o.Ok)(hk:o.k % 10=kk)(hE:∀y,E y→(S.at y).isSome=true) :
  Calls Tryz.prog 13 #[.pointer (some ⟨g,0,none⟩),.agg (opC o).toArray] w (E8 ex E c x B w0 l g R Q S K d (ms X) σ o):=by
 have hD:=uD h T hX hx ho
 obtain⟨Hs,hHs⟩:∃Hs,Hs=iZ S σ (ms X):=⟨_,rfl⟩
 rw [← hHs] at h
 have hHl:Hs.length=X.length:=by rw [hHs,jJ,aY]
 have hHp:0 < X.length:=hD.pos
 obtain⟨hva,hvc,hvv⟩:=aW (lL h)
 rw [hHl] at hvv
 subst hvv
 have HAl:=ae h
 have HT:=ae T
 have HO:=ae ho
 have HHs:=ae hHs
 have HHl:=ae hHl
 have HLd:=ae hLd
 have hbk:=bF h
 have g1:=hbk.cell 1
 have g2:=hbk.cell 2
 simp only [fQ,fP] at g1 g2
 have hgl:=hbk.lt
 have hgz:=hbk.free
 have hb1:=(ak w.heap.size w).alloc (au _) (.cells (opC o).toArray 39)
 have k1:=dD.new w (opC o) 39
 have hra:(o.a:Int) % (X.length:Int)=((o.iA X.length:Nat):Int):=rfl
 have hrb:(o.b:Int) % (X.length:Int)=((o.iB X.length:Nat):Int):=rfl
 have hrc:=ru o (n:=X.length) (by omega)
 have hrk:(o.k:Int) % 10=(kk:Int):=by omega
 have hal:o.iA X.length < X.length:=jr _ hHp
 have hbl:o.iB X.length < X.length:=jr _ hHp
 have hn0:¬(X.length:Int)=0:=by omega
 have hn1:¬(X.length:Int)+1=0:=by omega
 have hoa:=ho.a
 have hob:=ho.b
 have hoc:=ho.c
 have hok:=ho.k
 have HHas:=ae (fun wx (hb:Below w.heap.size w wx) i (hi:i≤1000000)=>BV (h.still hb) i hi (by have:=hD.pos;omega))
 clear h T ho hHs hbk hLd
 simp only [opC] at k1 hb1 ⊢
 rcases hkk with rfl | rfl | rfl
 all_goals
  go_enter Tryz.func13,Tryz.ntmps13
  go_upto_region 2 with fail
  generalize w.alloc (.cells #[.int .u8 o.k,.int .u8 o.a,.int .u8 o.b,.int .u8 o.c,.string ⟨o.s.toArray⟩,.string ⟨o.t.toArray⟩,.int .i8 o.n,.int .i8 o.kk] 39)=w1 at *
  have hne:=gI w1
  have x1:=fun(x:dS (jc w1))=>(k1.below x.h).cell 1
  have x2:=fun(x:dS (jc w1))=>(k1.below x.h).cell 2
  have x3:=fun(x:dS (jc w1))=>(k1.below x.h).cell 3
  simp only [fQ,fP] at x1 x2 x3
  refine mW (fun _ _=>True) (fun _ _=>True) 20 (by kernel_rfl) (by kernel_rfl) (fun _ _ _ _ _=>trivial) trivial ?_
  simp only [mD,mr,l9,lZ]
  repeat (first
   | (refine RV.aN (by rfl) (by rfl) (fun K hK=>?_);go_big_quiet_step (fail);refine az ?_;refine hK.out _ ?_;clear hK K)
   | (refine RV.aK (by rfl) ?_;simp only [Act.put,dL,dK,dJ]))
  refine RV.eH ?_
  intro w2 hb2' _
  have HB2:=ae (aV hb1 hb2')
  have HK2:=ae (k1.below hb2')
  clear x1 x2 x3 hne hb1 hb2' k1 g1 g2 hHl
  rw [hra,hrb,hrc]
  have HA2:=ae (HAl.out.still HB2.out)
  have c0:=HK2.out.cell 0
  have c6:=HK2.out.cell 6
  have g1:=(bF HA2.out).cell 1
  simp only [fQ,fP] at c0 c6 g1
  have hgl2:=(bF HA2.out).lt
  have hgz2:=(bF HA2.out).free
  have hxl2:=HK2.out.lt
  clear hgl hgz
  go_wp2_with fail
  refine(HHas.out w2 HB2.out _ (by omega)).mono ?_
  rintro e w3 ⟨rfl,hw⟩
  rw [hw]
  clear hw
  by_cases hn:0 < o.n
  case neg =>
   have hnb:decide (0 < o.n)=false:=by simpa using hn
   have hat:og o=[]:=by unfold og;rw [ax hn]
   have HA4:=ae (show All B w0 (Ul (.slice none 0 0) o :: (kK g R Q (.slice hva X.length hvc) Hs S sv fv nv X ++ l)) w2 by unfold Ul;rw [hat];exact HA2.out.nil _ _)
   have HOa:=ae (show Own w2 91 2 (.slice none 0 0) (og o).length (cu (og o)) by rw [hat];exact aG _ _ _ _)
   have HB4:=ae HB2.out
   have HK4:=ae HK2.out
   go_upto_region 25 with fail
   clear HA2 HK2 HB2 c0 c6 g1 hgl2 hgz2 hxl2 hat
   haveI hne:Nonempty (dS (uZ g R Q w.heap.size (.slice hva X.length hvc) o)):=⟨⟨w2,bF HA4.out.tail,HK4.out⟩⟩
   have y0:=fun(x:dS (uZ g R Q w.heap.size (.slice hva X.length hvc) o))=>x.h.bk.cell 0
   have z4:=fun(x:dS (uZ g R Q w.heap.size (.slice hva X.length hvc) o))=>x.h.bx.cell 4
   have z5:=fun(x:dS (uZ g R Q w.heap.size (.slice hva X.length hvc) o))=>x.h.bx.cell 5
   simp only [opC,fQ,fP] at y0 z4 z5
   refine qP (uZ g R Q w.heap.size (.slice hva X.length hvc) o) (TF w2 (OT B w0 l g R Q (.slice hva X.length hvc) Hs S nv X w.heap.size o (.slice none 0 0))) (fun _ v=>∃h er,v=.tuple #[.int .i64 h,.int .i64 er]) 16 (by kernel_rfl) (by kernel_rfl) (Aj (fun w' h=>⟨bF (HA4.out.still h).tail,HK4.out.below h⟩) Qb) (kL D7) (ak _ _) ?_
   simp only [mD,mr,l9,lZ]
   repeat (first
    | (refine RV.aN (by rfl) (by rfl) (fun K hK=>?_);go_big_quiet_step (fail);refine az ?_;refine hK.out _ ?_;clear hK K)
    | (refine RV.aK (by rfl) ?_;simp only [Act.put,dL,dK,dJ]))
   refine RV.dM (by rfl) (by rfl) (fun w=>by go_simp;exact⟨rfl,rfl⟩) (⟨_,0,0,rfl⟩) (fun X wx hx=>?_) (fun v hv=>?_)
   ·have hx2:Below w2.heap.size w2 wx:=hx
    have hA3:=HA4.out.still hx2
    have hk3:=HK4.out.below hx2
    have hT2:fZ 0 R S sv fv wx:=jF hA3.tail
    have ha:=zU HO.out
    have hcl:=MV hT2 ((HLd.out.below HB4.out).below hx2) HT.out.ok.fr (by have:=HT.out.ok.Ju;have:=hD.sl;omega) (by have:=hD.sl;omega) ((2+o.k % 10:Nat):Int) o.s o.t (by have:=HO.out.s;omega) (by have:=HO.out.t;omega) (.slice none 0 0) (og o) (bH HOa.out hx2) (by omega) (fun a h=>by have:=ha.2 a h;omega)
    rw [hk] at hcl
    refine hcl.mono ?_
    intro e wy hy
    first
     | rw [show((2+0:Nat):Int)=((2+o.k % 10:Nat):Int) by rw [hk]] at hy
     | rw [show((2+1:Nat):Int)=((2+o.k % 10:Nat):Int) by rw [hk]] at hy
     | rw [show((2+2:Nat):Int)=((2+o.k % 10:Nat):Int) by rw [hk]] at hy
    obtain⟨v,rfl,hsh,hr⟩:=Nb hA3 hk3 HT.out.ok.fr HT.out.ok.rZ hy
    exact⟨v,rfl,hsh,hr⟩
   obtain⟨hh,er,rfl⟩:=hv
   simp only [Act.put,dL,dK,dJ]
   repeat (first
    | (refine RV.aN (by rfl) (by rfl) (fun K hK=>?_);go_big_quiet_step (fail);refine az ?_;refine hK.out _ ?_;clear hK K)
    | (refine RV.aK (by rfl) ?_;simp only [Act.put,dL,dK,dJ]))
   refine RV.eH ?_
   intro w5 hF
   obtain⟨W0,S',sv',fv',hh',er',he,hres,hA5,hK5⟩:=hF
   simp only [gy,gK,iL,fG,iq,jX,je] at he
   obtain⟨rfl,rfl⟩:=he
   have HA5:=ae hA5
   have HK5:=ae hK5
   have HRes:=ae hres
   clear y0 z4 z5 hne hA5 hK5 hres
   obtain⟨gm,capm,rfl⟩:=(lG HA5.out.tail).W.shape hHp
   go_upto_region 27 with fail
   haveI hne:Nonempty (dS (uZ g R Q w.heap.size (.slice hva X.length hvc) o)):=⟨⟨w5,bF HA5.out.tail,HK5.out⟩⟩
   have y1:=fun(x:dS (uZ g R Q w.heap.size (.slice hva X.length hvc) o))=>x.h.bk.cell 1
   have z4:=fun(x:dS (uZ g R Q w.heap.size (.slice hva X.length hvc) o))=>x.h.bx.cell 4
   have z5:=fun(x:dS (uZ g R Q w.heap.size (.slice hva X.length hvc) o))=>x.h.bx.cell 5
   simp only [opC,fQ,fP] at y1 z4 z5
   refine qP (uZ g R Q w.heap.size (.slice hva X.length hvc) o) (TF w5 (OU B w0 l g R Q (.slice hva X.length hvc) Hs S' sv' fv' X w.heap.size o (.slice none 0 0))) (fun _ v=>∃en,v=.int .i64 en) 12 (by kernel_rfl) (by kernel_rfl) (Aj (fun w' h=>⟨bF (HA5.out.still h).tail,HK5.out.below h⟩) Qc) (kL D8) (ak _ _) ?_
   simp only [mD,mr,l9,lZ]
   repeat (first
    | (refine RV.aN (by rfl) (by rfl) (fun K hK=>?_);go_big_quiet_step (fail);refine az ?_;refine hK.out _ ?_;clear hK K)
    | (refine RV.aK (by rfl) ?_;simp only [Act.put,dL,dK,dJ]))
   refine RV.dM (by rfl) (by rfl) (fun w=>by go_simp;exact⟨rfl,rfl⟩) (⟨_,0,rfl⟩) (fun X wx hx=>?_) (fun v hv=>?_)
   ·have hx2:Below w5.heap.size w5 wx:=hx
    have hA3:=HA5.out.still hx2
    have hk3:=HK5.out.below hx2
    have ha:=zU HO.out
    have ho3:Own wx 92 2 (.slice none 0 0) (og o).length (cu (og o)):=hA3.head
    have hcl:=FU (lG hA3.tail) (by omega) ((2+o.k % 10:Nat):Int) (by omega) (by omega) o.s o.t (by have:=HO.out.s;omega) (by have:=HO.out.t;omega) (.slice none 0 0) (og o) ho3 (by omega) (fun a h=>by have:=ha.2 a h;omega)
    rw [hk] at hcl
    refine hcl.mono ?_
    intro e wy hy
    first
     | rw [show((2+0:Nat):Int)=((2+o.k % 10:Nat):Int) by rw [hk]] at hy
     | rw [show((2+1:Nat):Int)=((2+o.k % 10:Nat):Int) by rw [hk]] at hy
     | rw [show((2+2:Nat):Int)=((2+o.k % 10:Nat):Int) by rw [hk]] at hy
    obtain⟨v,rfl,hsh,hr⟩:=Nc hA3 hk3 hy
    exact⟨v,rfl,hsh,hr⟩
   obtain⟨en,rfl⟩:=hv
   simp only [Act.put,dL,dK,dJ]
   repeat (first
    | (refine RV.aN (by rfl) (by rfl) (fun K hK=>?_);go_big_quiet_step (fail);refine az ?_;refine hK.out _ ?_;clear hK K)
    | (refine RV.aK (by rfl) ?_;simp only [Act.put,dL,dK,dJ]))
   refine RV.eH ?_
   intro w7 hF
   obtain⟨X',gm',capm',en',he,hmm,hA7,hK7⟩:=hF
   obtain rfl:en=en':=by simpa using he
   clear he
   have HMm:=ae hmm
   clear hmm
   obtain⟨hee,hc⟩:=Np (B:=B) (w0:=w0) (l:=l) (g:=g) (R:=R) (Q:=Q) HT.out hE hX hx HO.out (by omega) HMm.out HRes.out
   subst hee
   have HA7:=ae hA7.tail
   clear y1 z4 z5 hne hA7 hK7
   rcases hc with ⟨h0,rfl,hc⟩ | ⟨rfl,hh0,hc⟩
   case inl =>
    have HC:=ae hc
    clear hc
    have e0:(er == 0)=false:=by simpa using h0
    go_wp2_with fail
    go_ret2
    rw [← HHs.out] at HC
    exact HC.out _ _ _ _ _ HA7.out
   case inr =>
    have HC:=ae hc
    clear hc
    have e0:(hh == 0)=false:=by simpa using hh0
    have e1:(hh != 0)=true:=by simpa using hh0
    have g2:=(bF HA7.out).cell 2
    simp only [fQ,fP] at g2
    have hgl7:=(bF HA7.out).lt
    have hgz7:=(bF HA7.out).free
    go_wp2_with (at_builtin;go_loud (refine lK sS [bk g [.pointer (some ⟨R,0,none⟩),.pointer (some ⟨Q,0,none⟩),.slice hva X.length hvc] 33] (l2:=[Bg R S' sv' fv',ui Q (.slice (some ⟨gm',0,none⟩) X'.length capm') X'] ++ l) (HA7.out.alloc _) (jg (n:=1) (size:=1) (dD.new w7 [.int .i64 hh] 3) rfl (by omega)) (by intro u hu;simp at hu;subst hu;rfl) (by have:=HHl.out;omega) (by omega) rfl _ _ rfl rfl rfl ?_);intro v8 w8 hA8;have b8:dD w8 g [.pointer (some ⟨R,0,none⟩),.pointer (some ⟨Q,0,none⟩),.slice hva X.length hvc] 33:=hA8.P (bk g [.pointer (some ⟨R,0,none⟩),.pointer (some ⟨Q,0,none⟩),.slice hva X.length hvc] 33) (by simp);obtain⟨va8,vc8,rfl⟩:=aW (show Own w8 3 1 v8 (Hs.length+1) (hC Hs ++ [Value.int .i64 hh]) from hA8.P (sl 3 1 v8 (Hs.length+1) (hC Hs ++ [Value.int .i64 hh])) (gX _ Xz));have q8:=b8.cell 2;simp only [fQ,fP] at q8;have hgl8:=b8.lt;have hgz8:=b8.free;have HA8:=ae hA8;clear hA8 b8)
    go_wp2_with fail
    go_ret2
    rw [← HHs.out] at HC
    exact HC.out _ _ _ _ _ (Gx HA8.out)
  case pos =>
   have hnb:decide (0 < o.n)=true:=by simpa using hn
   have hat:og o=[(o.t,o.s),([107],o.t)]:=by unfold og;rw [aC hn]
   have c4:=HK2.out.cell 4
   have c5:=HK2.out.cell 5
   simp only [fQ,fP] at c4 c5
   have k1:=dD.new w2 [.string ⟨o.t.toArray⟩,.string ⟨o.s.toArray⟩,.string ⟨#[107]⟩,.string ⟨o.t.toArray⟩] 91
   have k2:=dD.new (w2.alloc (.cells #[.string ⟨o.t.toArray⟩,.string ⟨o.s.toArray⟩,.string ⟨#[107]⟩,.string ⟨o.t.toArray⟩] 91)) [.string ⟨o.t.toArray⟩,.string ⟨o.s.toArray⟩,.string ⟨#[107]⟩,.string ⟨o.t.toArray⟩] 92
   have hsz:(w2.alloc (.cells #[.string ⟨o.t.toArray⟩,.string ⟨o.s.toArray⟩,.string ⟨#[107]⟩,.string ⟨o.t.toArray⟩] 91)).heap.size=w2.heap.size+1:=by simp
   have hb24:Below w2.heap.size w2 ((w2.alloc (.cells #[.string ⟨o.t.toArray⟩,.string ⟨o.s.toArray⟩,.string ⟨#[107]⟩,.string ⟨o.t.toArray⟩] 91)).alloc (.cells #[.string ⟨o.t.toArray⟩,.string ⟨o.s.toArray⟩,.string ⟨#[107]⟩,.string ⟨o.t.toArray⟩] 92)):=((ak _ _).alloc (au _) _).alloc (by rw [hsz];omega) _
   rw [hsz] at k2
   have ho1:=jg (n:=2) (size:=2) (k1.alloc (.cells #[.string ⟨o.t.toArray⟩,.string ⟨o.s.toArray⟩,.string ⟨#[107]⟩,.string ⟨o.t.toArray⟩] 92)) rfl (by omega)
   have ho2:=jg (n:=2) (size:=2) k2 rfl (by omega)
   go_upto_region 25 with fail
   generalize ((w2.alloc (.cells #[.string ⟨o.t.toArray⟩,.string ⟨o.s.toArray⟩,.string ⟨#[107]⟩,.string ⟨o.t.toArray⟩] 91)).alloc (.cells #[.string ⟨o.t.toArray⟩,.string ⟨o.s.toArray⟩,.string ⟨#[107]⟩,.string ⟨o.t.toArray⟩] 92))=w4 at *
   have HA4:=ae (HA2.out.new (o:=Ul (.slice (some ⟨w2.heap.size+1,0,none⟩) 2 2) o) (show Own w4 92 2 (.slice (some ⟨w2.heap.size+1,0,none⟩) 2 2) (og o).length (cu (og o)) by rw [hat];exact ho2) hb24 (by intro k hk;cases hk;exact ed _))
   have HOa:=ae (show Own w4 91 2 (.slice (some ⟨w2.heap.size,0,none⟩) 2 2) (og o).length (cu (og o)) by rw [hat];exact ho1)
   have HB4:=ae (aV HB2.out hb24)
   have HK4:=ae (HK2.out.below hb24)
   clear HA2 HK2 HB2 c0 c4 c5 c6 g1 hgl2 hgz2 hxl2 hat k1 k2 ho1 ho2 hb24 hsz
   haveI hne:Nonempty (dS (uZ g R Q w.heap.size (.slice hva X.length hvc) o)):=⟨⟨w4,bF HA4.out.tail,HK4.out⟩⟩
   have y0:=fun(x:dS (uZ g R Q w.heap.size (.slice hva X.length hvc) o))=>x.h.bk.cell 0
   have z4:=fun(x:dS (uZ g R Q w.heap.size (.slice hva X.length hvc) o))=>x.h.bx.cell 4
   have z5:=fun(x:dS (uZ g R Q w.heap.size (.slice hva X.length hvc) o))=>x.h.bx.cell 5
   simp only [opC,fQ,fP] at y0 z4 z5
   refine qP (uZ g R Q w.heap.size (.slice hva X.length hvc) o) (TF w4 (OT B w0 l g R Q (.slice hva X.length hvc) Hs S nv X w.heap.size o (.slice (some ⟨w2.heap.size+1,0,none⟩) 2 2))) (fun _ v=>∃h er,v=.tuple #[.int .i64 h,.int .i64 er]) 16 (by kernel_rfl) (by kernel_rfl) (Aj (fun w' h=>⟨bF (HA4.out.still h).tail,HK4.out.below h⟩) Qb) (kL D7) (ak _ _) ?_
   simp only [mD,mr,l9,lZ]
   repeat (first
    | (refine RV.aN (by rfl) (by rfl) (fun K hK=>?_);go_big_quiet_step (fail);refine az ?_;refine hK.out _ ?_;clear hK K)
    | (refine RV.aK (by rfl) ?_;simp only [Act.put,dL,dK,dJ]))
   refine RV.dM (by rfl) (by rfl) (fun w=>by go_simp;exact⟨rfl,rfl⟩) (⟨_,0,0,rfl⟩) (fun X wx hx=>?_) (fun v hv=>?_)
   ·have hx2:Below w4.heap.size w4 wx:=hx
    have hA3:=HA4.out.still hx2
    have hk3:=HK4.out.below hx2
    have hT2:fZ 0 R S sv fv wx:=jF hA3.tail
    have ha:=zU HO.out
    have hcl:=MV hT2 ((HLd.out.below HB4.out).below hx2) HT.out.ok.fr (by have:=HT.out.ok.Ju;have:=hD.sl;omega) (by have:=hD.sl;omega) ((2+o.k % 10:Nat):Int) o.s o.t (by have:=HO.out.s;omega) (by have:=HO.out.t;omega) (.slice (some ⟨w2.heap.size,0,none⟩) 2 2) (og o) (bH HOa.out hx2) (by omega) (fun a h=>by have:=ha.2 a h;omega)
    rw [hk] at hcl
    refine hcl.mono ?_
    intro e wy hy
    first
     | rw [show((2+0:Nat):Int)=((2+o.k % 10:Nat):Int) by rw [hk]] at hy
     | rw [show((2+1:Nat):Int)=((2+o.k % 10:Nat):Int) by rw [hk]] at hy
     | rw [show((2+2:Nat):Int)=((2+o.k % 10:Nat):Int) by rw [hk]] at hy
    obtain⟨v,rfl,hsh,hr⟩:=Nb hA3 hk3 HT.out.ok.fr HT.out.ok.rZ hy
    exact⟨v,rfl,hsh,hr⟩
   obtain⟨hh,er,rfl⟩:=hv
   simp only [Act.put,dL,dK,dJ]
   repeat (first
    | (refine RV.aN (by rfl) (by rfl) (fun K hK=>?_);go_big_quiet_step (fail);refine az ?_;refine hK.out _ ?_;clear hK K)
    | (refine RV.aK (by rfl) ?_;simp only [Act.put,dL,dK,dJ]))
   refine RV.eH ?_
   intro w5 hF
   obtain⟨W0,S',sv',fv',hh',er',he,hres,hA5,hK5⟩:=hF
   simp only [gy,gK,iL,fG,iq,jX,je] at he
   obtain⟨rfl,rfl⟩:=he
   have HA5:=ae hA5
   have HK5:=ae hK5
   have HRes:=ae hres
   clear y0 z4 z5 hne hA5 hK5 hres
   obtain⟨gm,capm,rfl⟩:=(lG HA5.out.tail).W.shape hHp
   go_upto_region 27 with fail
   haveI hne:Nonempty (dS (uZ g R Q w.heap.size (.slice hva X.length hvc) o)):=⟨⟨w5,bF HA5.out.tail,HK5.out⟩⟩
   have y1:=fun(x:dS (uZ g R Q w.heap.size (.slice hva X.length hvc) o))=>x.h.bk.cell 1
   have z4:=fun(x:dS (uZ g R Q w.heap.size (.slice hva X.length hvc) o))=>x.h.bx.cell 4
   have z5:=fun(x:dS (uZ g R Q w.heap.size (.slice hva X.length hvc) o))=>x.h.bx.cell 5
   simp only [opC,fQ,fP] at y1 z4 z5
   refine qP (uZ g R Q w.heap.size (.slice hva X.length hvc) o) (TF w5 (OU B w0 l g R Q (.slice hva X.length hvc) Hs S' sv' fv' X w.heap.size o (.slice (some ⟨w2.heap.size+1,0,none⟩) 2 2))) (fun _ v=>∃en,v=.int .i64 en) 12 (by kernel_rfl) (by kernel_rfl) (Aj (fun w' h=>⟨bF (HA5.out.still h).tail,HK5.out.below h⟩) Qc) (kL D8) (ak _ _) ?_
   simp only [mD,mr,l9,lZ]
   repeat (first
    | (refine RV.aN (by rfl) (by rfl) (fun K hK=>?_);go_big_quiet_step (fail);refine az ?_;refine hK.out _ ?_;clear hK K)
    | (refine RV.aK (by rfl) ?_;simp only [Act.put,dL,dK,dJ]))
   refine RV.dM (by rfl) (by rfl) (fun w=>by go_simp;exact⟨rfl,rfl⟩) (⟨_,0,rfl⟩) (fun X wx hx=>?_) (fun v hv=>?_)
   ·have hx2:Below w5.heap.size w5 wx:=hx
    have hA3:=HA5.out.still hx2
    have hk3:=HK5.out.below hx2
    have ha:=zU HO.out
    have ho3:Own wx 92 2 (.slice (some ⟨w2.heap.size+1,0,none⟩) 2 2) (og o).length (cu (og o)):=hA3.head
    have hcl:=FU (lG hA3.tail) (by omega) ((2+o.k % 10:Nat):Int) (by omega) (by omega) o.s o.t (by have:=HO.out.s;omega) (by have:=HO.out.t;omega) (.slice (some ⟨w2.heap.size+1,0,none⟩) 2 2) (og o) ho3 (by omega) (fun a h=>by have:=ha.2 a h;omega)
    rw [hk] at hcl
    refine hcl.mono ?_
    intro e wy hy
    first
     | rw [show((2+0:Nat):Int)=((2+o.k % 10:Nat):Int) by rw [hk]] at hy
     | rw [show((2+1:Nat):Int)=((2+o.k % 10:Nat):Int) by rw [hk]] at hy
     | rw [show((2+2:Nat):Int)=((2+o.k % 10:Nat):Int) by rw [hk]] at hy
    obtain⟨v,rfl,hsh,hr⟩:=Nc hA3 hk3 hy
    exact⟨v,rfl,hsh,hr⟩
   obtain⟨en,rfl⟩:=hv
   simp only [Act.put,dL,dK,dJ]
   repeat (first
    | (refine RV.aN (by rfl) (by rfl) (fun K hK=>?_);go_big_quiet_step (fail);refine az ?_;refine hK.out _ ?_;clear hK K)
    | (refine RV.aK (by rfl) ?_;simp only [Act.put,dL,dK,dJ]))
   refine RV.eH ?_
   intro w7 hF
   obtain⟨X',gm',capm',en',he,hmm,hA7,hK7⟩:=hF
   obtain rfl:en=en':=by simpa using he
   clear he
   have HMm:=ae hmm
   clear hmm
   obtain⟨hee,hc⟩:=Np (B:=B) (w0:=w0) (l:=l) (g:=g) (R:=R) (Q:=Q) HT.out hE hX hx HO.out (by omega) HMm.out HRes.out
   subst hee
   have HA7:=ae hA7.tail
   clear y1 z4 z5 hne hA7 hK7
   rcases hc with ⟨h0,rfl,hc⟩ | ⟨rfl,hh0,hc⟩
   case inl =>
    have HC:=ae hc
    clear hc
    have e0:(er == 0)=false:=by simpa using h0
    go_wp2_with fail
    go_ret2
    rw [← HHs.out] at HC
    exact HC.out _ _ _ _ _ HA7.out
   case inr =>
    have HC:=ae hc
    clear hc
    have e0:(hh == 0)=false:=by simpa using hh0
    have e1:(hh != 0)=true:=by simpa using hh0
    have g2:=(bF HA7.out).cell 2
    simp only [fQ,fP] at g2
    have hgl7:=(bF HA7.out).lt
    have hgz7:=(bF HA7.out).free
    go_wp2_with (at_builtin;go_loud (refine lK sS [bk g [.pointer (some ⟨R,0,none⟩),.pointer (some ⟨Q,0,none⟩),.slice hva X.length hvc] 33] (l2:=[Bg R S' sv' fv',ui Q (.slice (some ⟨gm',0,none⟩) X'.length capm') X'] ++ l) (HA7.out.alloc _) (jg (n:=1) (size:=1) (dD.new w7 [.int .i64 hh] 3) rfl (by omega)) (by intro u hu;simp at hu;subst hu;rfl) (by have:=HHl.out;omega) (by omega) rfl _ _ rfl rfl rfl ?_);intro v8 w8 hA8;have b8:dD w8 g [.pointer (some ⟨R,0,none⟩),.pointer (some ⟨Q,0,none⟩),.slice hva X.length hvc] 33:=hA8.P (bk g [.pointer (some ⟨R,0,none⟩),.pointer (some ⟨Q,0,none⟩),.slice hva X.length hvc] 33) (by simp);obtain⟨va8,vc8,rfl⟩:=aW (show Own w8 3 1 v8 (Hs.length+1) (hC Hs ++ [Value.int .i64 hh]) from hA8.P (sl 3 1 v8 (Hs.length+1) (hC Hs ++ [Value.int .i64 hh])) (gX _ Xz));have q8:=b8.cell 2;simp only [fQ,fP] at q8;have hgl8:=b8.lt;have hgz8:=b8.free;have HA8:=ae hA8;clear hA8 b8)
    go_wp2_with fail
    go_ret2
    rw [← HHs.out] at HC
    exact HC.out _ _ _ _ _ (Gx HA8.out)
end Go.Proofs.YtfelmdkeaacfeaaGreatDoor.W
end
