/- Texts joined: InsG Named Rsz. -/
import Derived.Test.YtfelmdkeaacfeaaGreatDoorTB1
import Derived.Test.YtfelmdkeaacfeaaGreatDoorTB6
import Derived.Test.YtfelmdkeaacfeaaGreatDoorTB7
import Derived.LoopTactic
set_option maxRecDepth 100000
set_option maxHeartbeats 40000000
set_option linter.unusedVariables false
set_option linter.unusedSimpArgs false
section
namespace Go.Proofs.YtfelmdkeaacfeaaGreatDoor.W
open Go.RowKit
def Place (K:Nat→List Nat)(p:Nat)(o:Option Nat)(j:Nat):Prop:=(o=none∧j=(K p).length)∨(∃b,o=some b∧(K p)[j]? = some b)
theorem Place.le {K:Nat→List Nat}{p:Nat}{o:Option Nat}{j:Nat}(h:Place K p o j):j≤(K p).length:=by
 rcases h with ⟨_,e⟩ | ⟨b,_,e⟩
 ·omega
 ·have:=(ai.1 e).1;omega
theorem Jb {K:Nat→List Nat}{p:Nat}{o:Option Nat}(h:∀b,o=some b→b∈K p):∃j,Place K p o j:=by
 cases o with
 | none=>exact⟨_,.inl ⟨rfl,rfl⟩⟩
 | some b =>
  obtain⟨j,hj⟩:=aI.1 (h b rfl)
  exact⟨j,.inr ⟨b,rfl,hj⟩⟩
theorem link_any {B R g cap:Nat}{S:Tr}{fv:Value}{w:World}{K:Nat→List Nat}{d d':Nat→Nat}(h:fZ B R S (.slice (some ⟨g,0,none⟩) S.slots.length cap) fv w)(hL:Lk S K d)(p c j:Nat)(o:Option Nat)(np nc:Nd)(hp:S.at p=some np)(hc:S.at c=some nc)(ho:Place K p o j)(hpc:p≠c)
  (hdet:∀q,c∉K q)(hL':∀S',Linked S S' (K p) p j c→Lk S' (jK K p j c) d') :
  Calls Tryz.prog 57 #[.pointer (some ⟨R,0,none⟩),.int .i64 (S.hd p),.int .i64 (S.hd c),.int .i64 (hO S o)] w fun e w'=>∃S',Linked S S' (K p) p j c∧e=.returned (.agg (recC 1 (S.hd p) (S.hd c) (hO S (pv (K p) j)) (hO S o) j [] [] false 0 0).toArray) ∧
   fZ B R S' (.slice (some ⟨g,0,none⟩) S'.slots.length cap) fv w'∧dU (fun k=>k=g) w w':=by
 rcases ho with ⟨rfl,rfl⟩ | ⟨b,rfl,hj⟩
 ·refine(D5 h hL p c np nc hp hc hpc hdet hL').mono ?_
  rintro e w' ⟨S',h1,rfl,h3⟩
  exact⟨S',h1,by rw [(hL.node p np hp).2,tX];rfl,h3⟩
 ·obtain⟨nb,hb⟩:=hL.some hj
  refine(P8 h hL p c j b np nc nb hp hc hb hj hpc hdet hL').mono ?_
  rintro e w' ⟨S',h1,rfl,h3⟩
  exact⟨S',h1,by rw [(hL.kid p j b nb hj hb).2.1];rfl,h3⟩
theorem RD {S:Tr}{K:Nat→List Nat}{d:Nat→Nat}{p c:Nat}{np nc:Nd}(h:nU S K d p c np nc=true):lH S d c p=false∧nc.kind≠1:=by
 unfold nU at h
 split at h
 ·cases h
 ·rename_i e
  simp only [xQ,WT,not_or] at e
  refine⟨?_,e.1⟩
  have:=e.2
  unfold lH
  cases e2:mX S c (d p) (some p) with
  | false=>rfl
  | true=>exact absurd e2 this
inductive Iw (S:Tr) (K:Nat→List Nat) (c p:Nat) (o:Option Nat) (nc:Nd) (S':Tr) (K':Nat→List Nat) (l:List (List Value)):Prop
 | det (j:Nat) (h1:∀q,c∉K q) (h2:Place K p o j) (h3:Linked S S' (K p) p j c) (h4:K'=jK K p j c) (h5:l=[recC 1 (S.hd p) (S.hd c) (hO S (pv (K p) j)) (hO S o) j [] [] false 0 0])
 | sF (q i j:Nat) (S1:Tr) (o':Option Nat) (h1:(K q)[i]? = some c) (h2:yI S S1 (K q) q i c) (h3:o'=if o=some c then(K q)[i+1]? else o) (h4:Place (mP K q i) p o' j) (h5:Linked S1 S' (mP K q i p) p j c) (h6:K'=jK (mP K q i) p j c)
  (h7:l=[recC 2 (S.hd q) (S.hd c) nc.prev nc.next i [] [] false 0 0,recC 1 (S.hd p) (S.hd c) (hO S (pv (mP K q i p) j)) (hO S o') j [] [] false 0 0])
theorem Lu {S S':Tr}{l:List Nat}{p j c:Nat}(h:yI S S' l p j c)(o:Option Nat):hO S' o=hO S o:=by cases o with | none=>rfl | some x=>exact h.hd x
theorem yY (a b c d e f:Int)(x:Bool)(y z:Int):∀u∈[Value.int .i64 a,.int .i64 b,.int .i64 c,.int .i64 d,.int .i64 e,.int .i64 f,.string ⟨#[]⟩,.string ⟨#[]⟩,.bool x,.int .i64 y,.int .i64 z],u.oneCell'=true:=by
 intro u hu;simp only [bn,iH,rP] at hu;rcases hu with rfl | rfl | rfl | rfl | rfl | rfl | rfl | rfl | rfl | rfl | rfl <;> rfl
theorem fZ.Jr {B R g cap:Nat}{S:Tr}{n:Nat}{fv v:Value}{w w':World}{xs:List Value}(h:fZ B R S (.slice (some ⟨g,0,none⟩) n cap) fv w)(k:dU (fun k=>v.ownBlock=some k) w w'){B':Nat}(_hv:∀k,v.ownBlock=some k→B'≤k∧k≠g){m:Nat}(ho:w.ownsRow B' 41 11 v m xs):fZ B R S (.slice (some ⟨g,0,none⟩) n cap) fv w':=by
 have other:∀{k:Nat} {cs:Array Value} {t:TypeId},w.heap[k]? = some (.cells cs t (0,0))→41≠t→w'.heap[k]? = w.heap[k]?:=fun {k' cs t} hk ht=>k.block _ (gp hk) (fun e=>by
  obtain⟨cur,hc⟩:=gJ ho e
  rw [hk] at hc
  cases hc
  exact ht rfl)
 have keep:∀{e sz n:Nat} {v:Value} {xs:List Value},41≠e→w.ownsRow B e sz v n xs→w'.ownsRow B e sz v n xs:=fun ht ⟨h1,h2⟩ =>
  ⟨h1,h2.imp id fun⟨g',cap',cur',e1,e2,e3,rest⟩=>⟨g',cap',cur',e1,e2,(other e3 ht).trans e3,rest⟩⟩
 refine⟨h.blk.kept (other h.blk (by decide)),keep (by decide) h.slots,keep (by decide) h.free,fun i n hi=>?_,h.base,h.few⟩
 obtain⟨a,cap,e,h'⟩:=h.attrs i n hi
 refine⟨a,cap,e,h'.imp id ?_⟩
 rintro⟨g,cur,e,hB,hg,hc⟩
 exact⟨g,cur,e,hB,(other hg (by decide)).trans hg,hc⟩
theorem Ol {B R g cap:Nat}{S:Tr}{fv:Value}{w:World}{K:Nat→List Nat}{d:Nat→Nat}(h:fZ B R S (.slice (some ⟨g,0,none⟩) S.slots.length cap) fv w)(hL:Lk S K d)(p c:Nat)(o:Option Nat)(np nc:Nd)(hp:S.at p=some np)(hc:S.at c=some nc)(ho:∀b,o=some b→b∈K p)
  (hmay:nU S K d p c np nc=true)(hdep:d p+hgt K (128 - d c) c≤128) :
  Calls Tryz.prog 16 #[.pointer (some ⟨R,0,none⟩),.int .i64 (S.hd p),.int .i64 (S.hd c),.int .i64 (hO S o)] w fun e w'=>∃S' K' v l,Iw S K c p o nc S' K' l∧Lk S' K' (En S d p c)∧e=.returned (.tuple #[v,.int .i64 0]) ∧
   sG w' w.heap.size v l∧fZ B R S' (.slice (some ⟨g,0,none⟩) S'.slots.length cap) fv w'∧dU (fun k=>k=g) w w':=by
 have HP:=ae (fun wx (hb:Below w.heap.size w wx)=>bV (h.below hb) (S.hd p) (hd_ok hL hp).1 (fV hL hp))
 have HC:=ae (fun wx (hb:Below w.heap.size w wx)=>bV (h.below hb) (S.hd c) (hd_ok hL hc).1 (fV hL hc))
 have HM:=ae (fun wx (hb:Below w.heap.size w wx)=>uk (h.below hb) hL p c np nc hp hc)
 rw [hmay] at HM
 have HD:=ae (fun wx (hb:Below w.heap.size w wx)=>wX (h.below hb) hL p np hp)
 have HH:=ae (fun wx (hb:Below w.heap.size w wx)=>height_any hL (128 - d c) c nc hc rfl wx (h.below hb))
 have H4:=ae (fun wx (hb:Below w.heap.size w wx)=>bK (h.below hb) hc 4 (by omega))
 have H8:=ae (fun wx (hb:Below w.heap.size w wx)=>bK (h.below hb) hc 8 (by omega))
 have hnot:=(RD hmay).1
 have hcs:(S.at c).isSome=true:=by rw [hc];rfl
 have hpc:p≠c:=fun e=>by subst e;rw [sub_self hL hcs] at hnot;cases hnot
 have hc0:¬S.hd c=0:=by have:=(hd_ok hL hc).2;omega
 have hc1:(S.hd c == 0)=false:=by simpa using hc0
 have hc2:((0:Int) == S.hd c)=false:=by simpa using fun e=>hc0 e.symm
 have hhc:=ql K (128 - d c) c
 have hlow:=hL.low p
 have HT:=ae h
 have HL:=ae hL
 have Hp:=ae hp
 have Hc:=ae hc
 have Ho:=ae ho
 have HdG:=ae hdep
 clear h hL hp hc hmay ho
 generalize hgE:hgt K (128 - d c) c=hc1' at *
 have d5:decide ((128:Int) < (d p:Int)+(hc1':Int))=false:=by simp;omega
 rcases o with _ | b
 case' none =>
  rw [show hO S none=0 from rfl]
  go_enter Tryz.func16,Tryz.ntmps16
  go_wp2_with fail
  refine(HP.out _ (ak _ _)).mono ?_
  rintro e w1 ⟨rfl,hb1⟩
  go_wp2_with fail
  refine(HC.out _ hb1).mono ?_
  rintro e w2 ⟨rfl,hb2⟩
  have hB2:=aV hb1 hb2
  go_wp2_with fail
  refine(HM.out _ hB2).mono ?_
  rintro e w3 ⟨rfl,hb3⟩
  have hB3:=aV hB2 hb3
  go_wp2_with fail
  refine(HD.out _ hB3).mono ?_
  rintro e w4 ⟨rfl,hb4⟩
  have hB4:=aV hB3 hb4
  go_wp2_with fail
  refine(HH.out _ hB4).mono ?_
  rintro e wA ⟨rfl,hb5⟩
  have HW:=ae (aV hB4 hb5)
  clear hb1 hb2 hb3 hb4 hb5 hB2 hB3 hB4
  go_upto_region 10 with fail
  obtain⟨o',ho'⟩:∃o':Option Nat,o'=none:=⟨none,rfl⟩
  have HO1:=ae (show ∀q i,(K q)[i]? = some c→o'=if(none:Option Nat)=some c then(K q)[i+1]? else none from fun q i _=>by rw [ho'];simp)
  have HO3:=ae (show(∀q,c∉K q)→o'=none from fun _=>ho')
  have hx3:hO S o'=0:=by rw [ho'];rfl
  have HOK:=ae (show ∀b,o'=some b→b∈K p∧b≠c from fun b e=>by rw [ho'] at e;cases e)
  clear ho'
 case' some =>
  have hbm:=Ho.out b rfl
  obtain⟨nb,hb⟩:=aB.1 (HL.out.kin p b hbm).2
  obtain⟨jb,hjb⟩:=aI.1 hbm
  have hbp:nb.parent=S.hd p:=(HL.out.kid p jb b nb hjb hb).1
  have HB:=ae (fun wx (hb':Below w.heap.size w wx)=>bV (HT.out.below hb') (S.hd b) (hd_ok HL.out hb).1 (fV HL.out hb))
  have HB4:=ae (fun wx (hb':Below w.heap.size w wx)=>bK (HT.out.below hb') hb 4 (by omega))
  simp only [jd,hbp] at HB4
  have hb0:¬S.hd b=0:=by have:=(hd_ok HL.out hb).2;omega
  have hb1':(S.hd b == 0)=false:=by simpa using hb0
  have Hb:=ae hb
  have Hjb:=ae hjb
  have Hbm:=ae hbm
  rw [show hO S (some b)=S.hd b from rfl]
  clear hb hbp hjb hbm
  by_cases hbc:b=c
  case' pos =>
   obtain rfl:c=b:=hbc.symm
   go_enter Tryz.func16,Tryz.ntmps16
   go_wp2_with fail
   refine(HP.out _ (ak _ _)).mono ?_
   rintro e w1 ⟨rfl,hb1⟩
   go_wp2_with fail
   refine(HC.out _ hb1).mono ?_
   rintro e w2 ⟨rfl,hb2⟩
   have hB2:=aV hb1 hb2
   go_wp2_with fail
   refine(HB.out _ hB2).mono ?_
   rintro e w2' ⟨rfl,hb2'⟩
   have hB2':=aV hB2 hb2'
   go_wp2_with fail
   refine(HM.out _ hB2').mono ?_
   rintro e w3 ⟨rfl,hb3⟩
   have hB3:=aV hB2' hb3
   go_wp2_with fail
   refine(HB.out _ hB3).mono ?_
   rintro e w3' ⟨rfl,hb3'⟩
   have hB3':=aV hB3 hb3'
   have cb4:=HB4.out _ hB3'
   simp only [jd,fQ,fP] at cb4
   go_wp2_with fail
   clear cb4
   refine(HD.out _ hB3').mono ?_
   rintro e w4 ⟨rfl,hb4⟩
   have hB4:=aV hB3' hb4
   go_wp2_with fail
   refine(HH.out _ hB4).mono ?_
   rintro e w5 ⟨rfl,hb5⟩
   have hB5:=aV hB4 hb5
   go_wp2_with fail
   refine(HC.out _ hB5).mono ?_
   rintro e wA ⟨rfl,hb6⟩
   have HW:=ae (aV hB5 hb6)
   clear hb1 hb2 hb2' hb3 hb3' hb4 hb5 hb6 hB2 hB2' hB3 hB3' hB4 hB5
   have c8:=H8.out _ HW.out
   simp only [jd,fQ,fP] at c8
   go_upto_region 10 with fail
   clear c8
   have hnx:=(HL.out.kid p jb c nc Hjb.out Hc.out).2.2
   obtain⟨o',ho'⟩:∃o':Option Nat,o'=(K p)[jb+1]?:=⟨_,rfl⟩
   have HO1:=ae (show ∀q i,(K q)[i]? = some c→o'=if(some c:Option Nat)=some c then(K q)[i+1]? else some c from fun q i hq=>by
    have e:=HL.out.rD (ah hq) (ah Hjb.out)
    subst e
    rw [aC rfl,ho',HL.out.inj hq Hjb.out])
   have HO3:=ae (show(∀q,c∉K q)→o'=some c from fun hh=>absurd Hbm.out (hh p))
   have hx3:hO S o'=nc.next:=by rw [ho',hnx]
   have HOK:=ae (show ∀b',o'=some b'→b'∈K p∧b'≠c from fun b' e=>by
    rw [ho'] at e
    exact⟨ah e,fun e2=>by have:=HL.out.inj (e2 ▸ e) Hjb.out;omega⟩)
   clear ho' hnx
  case' neg =>
   have hbc1:¬S.hd b=S.hd c:=fun e=>by
    have l1:=iy Hb.out
    have l2:=iy Hc.out
    have:=HL.out.few
    exact hbc (zJ (by omega) (by omega) e)
   have hbc2:(S.hd b == S.hd c)=false:=by simpa using hbc1
   go_enter Tryz.func16,Tryz.ntmps16
   go_wp2_with fail
   refine(HP.out _ (ak _ _)).mono ?_
   rintro e w1 ⟨rfl,hb1⟩
   go_wp2_with fail
   refine(HC.out _ hb1).mono ?_
   rintro e w2 ⟨rfl,hb2⟩
   have hB2:=aV hb1 hb2
   go_wp2_with fail
   refine(HB.out _ hB2).mono ?_
   rintro e w2' ⟨rfl,hb2'⟩
   have hB2':=aV hB2 hb2'
   go_wp2_with fail
   refine(HM.out _ hB2').mono ?_
   rintro e w3 ⟨rfl,hb3⟩
   have hB3:=aV hB2' hb3
   go_wp2_with fail
   refine(HB.out _ hB3).mono ?_
   rintro e w3' ⟨rfl,hb3'⟩
   have hB3':=aV hB3 hb3'
   have cb4:=HB4.out _ hB3'
   simp only [jd,fQ,fP] at cb4
   go_wp2_with fail
   clear cb4
   refine(HD.out _ hB3').mono ?_
   rintro e w4 ⟨rfl,hb4⟩
   have hB4:=aV hB3' hb4
   go_wp2_with fail
   refine(HH.out _ hB4).mono ?_
   rintro e wA ⟨rfl,hb5⟩
   have HW:=ae (aV hB4 hb5)
   clear hb1 hb2 hb2' hb3 hb3' hb4 hb5 hB2 hB2' hB3 hB3' hB4
   go_upto_region 10 with fail
   obtain⟨o',ho'⟩:∃o':Option Nat,o'=some b:=⟨_,rfl⟩
   have HO1:=ae (show ∀q i,(K q)[i]? = some c→o'=if(some b:Option Nat)=some c then(K q)[i+1]? else some b from fun q i _=>by rw [ax (fun e=>hbc (cO e)),ho'])
   have HO3:=ae (show(∀q,c∉K q)→o'=some b from fun _=>ho')
   have hx3:hO S o'=S.hd b:=by rw [ho'];rfl
   have HOK:=ae (show ∀b',o'=some b'→b'∈K p∧b'≠c from fun b' e=>by rw [ho'] at e;cases e;exact⟨Hbm.out,hbc⟩)
   clear ho'
 all_goals
  clear HP HM HD HH H8
  have hgtl:=HdG.out
  by_cases hdt:∃q,c∈K q
  case' pos =>
   obtain⟨q,hq⟩:=hdt
   obtain⟨i,hi⟩:=aI.1 hq
   obtain⟨nq,hnq⟩:=aB.1 (HL.out.kin q c hq).1
   have hpar:nc.parent=S.hd q:=(HL.out.kid q i c nc hi Hc.out).1
   have hq0:¬S.hd q=0:=by have:=(hd_ok HL.out hnq).2;omega
   have hq1:(S.hd q == 0)=false:=by simpa using hq0
   have HU:=ae (fun wx (hb:Below w.heap.size w wx)=>Du (HT.out.below hb) HL.out q i c nc hi Hc.out)
   have Hi:=ae hi
   clear hq hnq hi
   go_wp2_with fail
   refine(HC.out _ HW.out).mono ?_
   rintro e w6 ⟨rfl,hb6⟩
   have hB6:=aV HW.out hb6
   have c4:=H4.out _ hB6
   simp only [jd,fQ,fP,hpar] at c4
   go_wp2_with fail
   clear c4
   refine(HU.out _ hB6).mono ?_
   rintro e w7 ⟨S1,hcut,rfl,hT7,hC7⟩
   have HT7:=ae hT7
   have HC7:=ae hC7
   have HB6:=ae hB6
   have hs7:=aQ hB6.size hC7.size
   clear hT7 hC7 hb6 hB6 HU
   simp only [recC,dA]
   have HS:=ae (jg (n:=1) (size:=11) (dD.new w7 [.int .i64 2,.int .i64 (S.hd q),.int .i64 (S.hd c),.int .i64 nc.prev,.int .i64 nc.next,.int .i64 (i:Int),.string ⟨#[]⟩,.string ⟨#[]⟩,.bool false,.int .i64 0,.int .i64 0] 41) rfl (by omega))
   have hs8:w.heap.size≤(w7.alloc (.cells #[.int .i64 2,.int .i64 (S.hd q),.int .i64 (S.hd c),.int .i64 nc.prev,.int .i64 nc.next,.int .i64 (i:Int),.string ⟨#[]⟩,.string ⟨#[]⟩,.bool false,.int .i64 0,.int .i64 0] 41)).heap.size:=by simp;omega
   go_wp2_with (at_builtin;refine lD Vx (aG _ w.heap.size _ _) hs8 HS.out (yY _ _ _ _ _ _ _ _ _) (by omega) (by omega) rfl _ _ rfl rfl rfl ?_)
   intro v1 w8 ho hgr _
   have h8:Below w7.heap.size w7 w8:=((ak _ w7).alloc (au _) _).grown hgr (by simp) (fun k e=>by cases e)
   have HO:=ae ho
   have H8:=ae h8
   have hs9:=aQ hs7 h8.size
   clear ho hgr h8 HS hs8
   have hL1:=HL.out.cut' Hi.out hcut
   obtain⟨np1,hp1⟩:∃n,S1.at p=some n:=by rw [hcut.at_,Hp.out];exact⟨_,rfl⟩
   obtain⟨nc1,hc1'⟩:∃n,S1.at c=some n:=by rw [hcut.at_,Hc.out];exact⟨_,rfl⟩
   have hmem:∀b,o'=some b→b∈mP K q i p:=fun b e=>by
    obtain⟨h1,h2⟩:=HOK.out b e
    exact(uG HL.out Hi.out p b).2 ⟨h1,h2⟩
   obtain⟨j,hpl⟩:=Jb hmem
   have HK1:=ae (fun wx (hb:Below w7.heap.size w7 wx)=>link_any (HT7.out.below hb) hL1 p c j o' np1 nc1 hp1 hc1' hpl hpc (fun q' hq'=>((uG HL.out Hi.out q' c).1 hq').2 rfl)
    (fun S' hl=>HL.out.Nr Hi.out hcut (by rw [Hp.out];rfl) hpl.le hnot (by rw [hgE];exact hgtl) hl))
   rw [hcut.hd,hcut.hd,Lu hcut,Lu hcut,hx3] at HK1
   have HL2:=ae (fun S' hl=>HL.out.Nr (S2:=S') Hi.out hcut (by rw [Hp.out];rfl) hpl.le hnot (by rw [hgE];exact hgtl) hl)
   have Hpl:=ae hpl
   have Hcut:=ae hcut
   clear hL1 hp1 hc1' hmem hpl hcut
   go_wp2_with fail
   refine(HK1.out _ H8.out).mono ?_
   rintro e w9 ⟨S',hlk,rfl,hT9,hC9⟩
   have HT9:=ae hT9
   have HC9:=ae hC9
   have hs10:=aQ hs9 hC9.size
   have hnv:v1.ownBlock≠some g:=fun e=>by
    have e1:=(HO.out.lt g e).1
    have e2:=(HT.out.slots.lt g rfl).2
    omega
   have HO9:=ae (gW HO.out (fun g' hg'=>hC9.block g' (HO.out.lt g' hg').2 (fun e=>hnv (e ▸ hg'))))
   have hv1:=fun k (hk:v1.ownBlock=some k)=>(HO.out.lt k hk).1
   clear hT9 hC9 HK1 HO
   have HS:=ae (jg (n:=1) (size:=11) (dD.new w9 [.int .i64 1,.int .i64 (S.hd p),.int .i64 (S.hd c),.int .i64 (hO S (pv (mP K q i p) j)),.int .i64 (hO S o'),.int .i64 (j:Int),.string ⟨#[]⟩,.string ⟨#[]⟩,.bool false,.int .i64 0,.int .i64 0] 41) rfl (by omega))
   rw [hx3] at HS
   have hs11:w.heap.size≤(w9.alloc (.cells #[.int .i64 1,.int .i64 (S.hd p),.int .i64 (S.hd c),.int .i64 (hO S (pv (mP K q i p) j)),.int .i64 (hO S o'),.int .i64 (j:Int),.string ⟨#[]⟩,.string ⟨#[]⟩,.bool false,.int .i64 0,.int .i64 0] 41)).heap.size:=by simp;omega
   rw [hx3] at hs11
   generalize hpvE:hO S (pv (mP K q i p) j)=pvx at *
   simp only [recC,dA]
   go_wp2_with (at_builtin;refine lD Vx (HO9.out.alloc _) hs11 HS.out (yY _ _ _ _ _ _ _ _ _) (by omega) (by omega) rfl _ _ rfl rfl rfl ?_)
   intro v' w10 ho hgr _
   have h10:Below w.heap.size w9 w10:=((ak _ w9).alloc (by omega) _).grown hgr hs11 hv1
   have HO10:=ae ho
   have hC10:dU (fun k=>v1.ownBlock=some k) w9 w10:=((dU.refl _ w9).alloc _).grown hgr (fun k e _=>e)
   have HC10:=ae hC10
   have H10:=ae h10
   clear ho hgr h10 HS hs11 hC10
   go_wp2_with fail
   go_ret2
   refine⟨S',jK (mP K q i) p j c,v',_,.sF q i j S1 o' Hi.out Hcut.out (by simpa using HO1.out q i Hi.out) Hpl.out hlk rfl rfl,HL2.out S' hlk,rfl,?_,?_,?_⟩
   ·rw [hpvE,hx3]
    simpa [sG,recC,dA] using HO10.out
   ·exact HT9.out.Jr HC10.out (fun k hk=>⟨hv1 k hk,fun e=>hnv (e ▸ hk)⟩) HO9.out
   ·have e7:dU (fun k=>k=g) w w7:=(dU.of_below HB6.out).trans HC7.out (fun _ _ h=>h)
    have e8:dU (fun k=>k=g) w w8:=e7.trans (dU.of_below (F:=fun k=>k=g) H8.out) (fun _ _ h=>h)
    have e9:dU (fun k=>k=g) w w9:=e8.trans HC9.out (fun _ _ h=>h)
    exact e9.trans HC10.out (fun i hi e=>by have:=hv1 i e;omega)
  case' neg =>
   have hdet:∀q,c∉K q:=fun q hq=>hdt ⟨q,hq⟩
   have hpar:nc.parent=0:=(HL.out.top c nc Hc.out hdet).1
   have hoo:=HO3.out hdet
   subst hoo
   obtain⟨j,hpl⟩:=Jb Ho.out
   have HK1:=ae (fun wx (hb:Below w.heap.size w wx)=>link_any (HT.out.below hb) HL.out p c j _ np nc Hp.out Hc.out hpl hpc hdet
    (fun S' hl=>HL.out.Tt (by rw [Hp.out];rfl) hcs hdet hpl.le hnot (by rw [hgE];exact hgtl) hl))
   rw [hx3] at HK1
   have HL2:=ae (fun S' hl=>HL.out.Tt (S2:=S') (by rw [Hp.out];rfl) hcs hdet hpl.le hnot (by rw [hgE];exact hgtl) hl)
   have Hpl:=ae hpl
   have Hdet:=ae hdet
   clear hpl hdt hdet
   go_wp2_with fail
   refine(HC.out _ HW.out).mono ?_
   rintro e w6 ⟨rfl,hb6⟩
   have hB6:=aV HW.out hb6
   have c4:=H4.out _ hB6
   simp only [jd,fQ,fP,hpar] at c4
   go_wp2_with fail
   clear c4
   refine(HK1.out _ hB6).mono ?_
   rintro e w9 ⟨S',hlk,rfl,hT9,hC9⟩
   have HT9:=ae hT9
   have HC9:=ae hC9
   have HB6:=ae hB6
   have hs10:=aQ hB6.size hC9.size
   clear hT9 hC9 HK1 hb6 hB6
   have HS:=ae (fun x3=>jg (n:=1) (size:=11) (dD.new w9 [.int .i64 1,.int .i64 (S.hd p),.int .i64 (S.hd c),.int .i64 (hO S (pv (K p) j)),.int .i64 x3,.int .i64 (j:Int),.string ⟨#[]⟩,.string ⟨#[]⟩,.bool false,.int .i64 0,.int .i64 0] 41) rfl (by omega))
   have hs11:∀x3:Int,w.heap.size≤(w9.alloc (.cells #[.int .i64 1,.int .i64 (S.hd p),.int .i64 (S.hd c),.int .i64 (hO S (pv (K p) j)),.int .i64 x3,.int .i64 (j:Int),.string ⟨#[]⟩,.string ⟨#[]⟩,.bool false,.int .i64 0,.int .i64 0] 41)).heap.size:=fun x3=>by simp;omega
   generalize hpvE:hO S (pv (K p) j)=pvx at *
   simp only [recC,dA]
   go_wp2_with (at_builtin;refine lD Vx (aG _ w.heap.size _ _) (hs11 _) (HS.out _) (yY _ _ _ _ _ _ _ _ _) (by omega) (by omega) rfl _ _ rfl rfl rfl ?_)
   intro v' w10 ho hgr _
   have h10:Below w9.heap.size w9 w10:=((ak _ w9).alloc (au _) _).grown hgr (by simp) (fun k e=>by cases e)
   have HO10:=ae ho
   have H10:=ae h10
   clear ho hgr h10 HS hs11
   go_wp2_with fail
   go_ret2
   refine⟨S',jK K p j c,v',_,.det j Hdet.out Hpl.out hlk rfl rfl,HL2.out S' hlk,rfl,?_,HT9.out.below H10.out,(((dU.of_below HB6.out).trans HC9.out (fun _ _ h=>h)).trans (dU.of_below (F:=fun k=>k=g) H10.out) (fun _ _ h=>h))⟩
   rw [hpvE,hx3]
   simpa [sG,recC,dA] using HO10.out
def mJ (l:List (List UInt8×List UInt8))(x:List UInt8):Int:=match l.findIdx? (fun y=>y.1 == x) with | some i=>(i:Int) | none=>-1
theorem FO {l:List (List UInt8×List UInt8)}{x:List UInt8}{k:Nat}{y:List UInt8×List UInt8}(hk:l[k]? = some y)(hy:y.1=x)(h:∀j z,j < k→l[j]? = some z→z.1≠x):mJ l x=(k:Int):=by
 unfold mJ
 obtain⟨hlt,he⟩:=ai.1 hk
 have:l.findIdx? (fun y=>y.1 == x)=some k:=by
  rw [rW]
  refine⟨hlt,by rw [he];simpa using hy,fun j hj=>?_⟩
  have:=h j (l[j]'(by omega)) hj (ay (by omega))
  simpa using this
 rw [this]
theorem FP {l:List (List UInt8×List UInt8)}{x:List UInt8}(h:∀(j:Nat) (z:List UInt8×List UInt8),l[j]? = some z→z.1≠x):mJ l x=-1:=by
 unfold mJ
 have:l.findIdx? (fun y=>y.1 == x)=none:=by
  rw [X8]
  intro y hy
  obtain⟨j,hj⟩:=aI.1 hy
  simpa using h j y hj
 rw [this]
theorem str_eq (a b:List UInt8):((⟨a.toArray⟩:ByteArray).toList == (⟨b.toArray⟩:ByteArray).toList)=decide (a=b):=by
 rw [oh,oh]
 by_cases h:a=b
 ·subst h;simp
 ·simp [h]
theorem KY (a b x:List UInt8)(g:Nat)(w:World)(hg:w.cell? ⟨g,0,none⟩=some (dA x)) :
  Calls Tryz.prog 104 #[.agg #[dA a,dA b],.pointer (some ⟨g,0,none⟩)] w fun e w'=>e=.returned (.bool (decide (a=x)))∧Below w.heap.size w w':=by
 have hlt:g < w.heap.size:=iG w ⟨g,0,none⟩ hg
 have hne:g≠w.heap.size:=by omega
 unfold dA at *
 have hq:=str_eq a x
 generalize hd:decide (a=x)=d at *
 clear hd
 generalize (⟨a.toArray⟩:ByteArray)=sa at *
 generalize (⟨b.toArray⟩:ByteArray)=sb at *
 generalize (⟨x.toArray⟩:ByteArray)=sx at *
 go_enter Tryz.func104,Tryz.ntmps104
 go_wp2
 go_ret
 exact⟨by rw [← hq];rfl,(ak _ _).alloc (au _) _⟩
def Wu (w:World)(l:List (List UInt8×List UInt8))(x:List UInt8)(iv:Value)(wr:World):Prop:=∃k:Nat,k≤l.length∧iv=.int .i64 (k:Int)∧(∀j z,j < k→l[j]? = some z→z.1≠x)∧Below w.heap.size w wr
def iW:Value→Nat
 | .int _ n=>n.toNat
 | _=>0
theorem Lt {B:Nat}{w:World}{v:Value}{l:List (List UInt8×List UInt8)}{x:List UInt8}{g:Nat}(h:jA B w v l)(hg:w.cell? ⟨g,0,none⟩=some (dA x))(hl:l.length≤1000) :
  Calls Tryz.prog 103 #[v,.func (.func 104) #[] #[.pointer (some ⟨g,0,none⟩)]] w fun e w'=>e=.returned (.int .i64 (mJ l x))∧Below w.heap.size w w':=by
 have hlt:g < w.heap.size:=iG w ⟨g,0,none⟩ hg
 obtain⟨va,vc,rfl,hcs⟩:=h
 have HG:=ae hg
 have HC:=ae hcs
 clear hg hcs
 go_enter Tryz.func103,Tryz.ntmps103
 go_wp2_with fail
 go_loopw [8] (fun iv wr=>Wu w l x iv wr) (fun iv _=>l.length - iW iv)
 case atStart=>exact⟨0,aZ _,rfl,fun j z hj=>absurd hj (Nat.not_lt_zero j),ak _ _⟩
 case round =>
  obtain⟨k,hk,rfl,hN,hB⟩:=hrel
  have HN:=ae hN
  clear hN
  by_cases hkl:k < l.length
  ·obtain⟨y,hy⟩:∃y,l[k]? = some y:=⟨_,ay hkl⟩
   rcases HC.out with rfl | ⟨vg,cur,rfl,_,hgg,hcc⟩
   ·simp at hkl
   have hgl:=gp hgg
   have q0:wr.cell? ⟨vg,k*2,none⟩=some (dA y.1):=by
    rw [hB.cell (p:=⟨vg,k*2,none⟩) hgl,show k*2=2*k by omega]
    rw [iQ hgg]
    exact(hcc k y hy).1
   have q1:wr.cell? ⟨vg,k*2+1,none⟩=some (dA y.2):=by
    rw [hB.cell (p:=⟨vg,k*2+1,none⟩) hgl,show k*2+1=2*k+1 by omega]
    rw [iQ hgg]
    exact(hcc k y hy).2
   have hc:=(hB.cell (p:=⟨g,0,none⟩) hlt).trans HG.out
   have HP1:=ae (KY y.1 y.2 x g wr hc)
   have HY:=ae hy
   clear hc hy hgg hcc
   by_cases hyx:y.1=x
   ·have HP:=ae (FO HY.out hyx HN.out)
    simp only [dZ hyx] at HP1
    clear hyx
    simp only [dA] at q0 q1 HP1
    go_wp2_with fail
    refine HP1.out.mono ?_
    rintro e w2 ⟨rfl,hb2⟩
    go_wp2_with fail
    go_ret
    exact⟨by rw [HP.out];rfl,hB.trans (hb2.mono hB.size)⟩
   ·simp only [eP hyx] at HP1
    simp only [dA] at q0 q1 HP1
    go_wp2_with fail
    refine HP1.out.mono ?_
    rintro e w2 ⟨rfl,hb2⟩
    go_wp2_with fail
    go_roundw
    case rel =>
     refine⟨k+1,by omega,by go_num,fun j z hj hz=>?_,hB.trans (hb2.mono hB.size)⟩
     by_cases e:j=k
     ·subst e
      rw [HY.out] at hz
      obtain rfl:=cO hz
      exact hyx
     ·exact HN.out j z (by omega) hz
    case measure=>simp [iW];omega
  ·have HP:=ae (FP (l:=l) (x:=x) fun j z hz=>HN.out j z (by have:=(ai.1 hz).1;omega) hz)
   go_wp2_with fail
   go_ret
   exact⟨by rw [HP.out];rfl,hB⟩
theorem FQ {B R g cap:Nat}{S:Tr}{fv:Value}{w:World}(h:fZ B R S (.slice (some ⟨g,0,none⟩) S.slots.length cap) fv w)(i:Nat)(n:Nd)(hi:S.at i=some n)(x:List UInt8)(hl:n.attrs.length≤1000) :
  Calls Tryz.prog 59 #[.pointer (some (na g i)),dA x] w fun e w'=>e=.returned (.int .i64 (mJ n.attrs x))∧Below w.heap.size w w':=by
 have hb:Below w.heap.size w (w.alloc (.cells #[dA x] 9)):=(ak _ _).alloc (au _) _
 have hT:=h.below hb
 have HI:=ae (Lt (g:=w.heap.size) (x:=x) (hT.attrs i n (dN hi)) (by have:=(dD.new w [dA x] 9).cell 0;simp) hl)
 have c2:=bK hT hi 2 (by omega)
 simp only [jd,fQ,fP] at c2
 obtain⟨va,vc,hva,_⟩:=h.attrs i n (dN hi)
 have hgn:mJ n.attrs x=mJ n.attrs x:=rfl
 rw [hva] at c2 HI
 generalize mJ n.attrs x=r at *
 unfold dA at *
 clear h hT hi hb
 go_enter Tryz.func59,Tryz.ntmps59
 go_wp2_with fail
 refine HI.out.mono ?_
 rintro e w2 ⟨rfl,hb2⟩
 go_wp2_with fail
 go_ret
 exact⟨rfl,((ak _ _).alloc (au _) _).trans (hb2.mono (by simp))⟩
theorem Ei {B R g cap:Nat}{S:Tr}{fv:Value}{w:World}{K d}(h:fZ B R S (.slice (some ⟨g,0,none⟩) S.slots.length cap) fv w)(hL:Lk S K d)(i:Nat)(n:Nd)(hi:S.at i=some n)(hk:n.kind=2) :
  Calls Tryz.prog 58 #[.pointer (some ⟨R,0,none⟩),.int .i64 (S.hd i)] w fun e w'=>e=.returned (.tuple #[.pointer (some (na g i)),.int .i64 0])∧Below w.heap.size w w':=by
 have HA:=ae (bV h (S.hd i) (hd_ok hL hi).1 (fV hL hi))
 have c0:=bK h hi 0 (by omega)
 simp only [jd,fQ,fP,hk] at c0
 clear h hL hi
 go_enter Tryz.func58,Tryz.ntmps58
 go_wp2_with fail
 refine HA.out.mono ?_
 rintro e w2 ⟨rfl,hb2⟩
 have c1:=aU hb2 c0
 go_wp2_with fail
 go_ret2
 exact⟨rfl,hb2⟩
theorem Eh {B R g cap:Nat}{S:Tr}{fv:Value}{w:World}{K d}(h:fZ B R S (.slice (some ⟨g,0,none⟩) S.slots.length cap) fv w)(hL:Lk S K d)(i:Nat)(n:Nd)(hi:S.at i=some n)(hk:n.kind≠2) :
  Calls Tryz.prog 58 #[.pointer (some ⟨R,0,none⟩),.int .i64 (S.hd i)] w fun e w'=>e=.returned (.tuple #[.pointer none,.int .i64 10])∧Below w.heap.size w w':=by
 have HA:=ae (bV h (S.hd i) (hd_ok hL hi).1 (fV hL hi))
 have c0:=bK h hi 0 (by omega)
 simp only [jd,fQ,fP] at c0
 have hk2:(n.kind == 2)=false:=by simpa using hk
 clear h hL hi
 go_enter Tryz.func58,Tryz.ntmps58
 go_wp2_with fail
 refine HA.out.mono ?_
 rintro e w2 ⟨rfl,hb2⟩
 have c1:=aU hb2 c0
 go_wp2_with fail
 go_ret2
 exact⟨rfl,hb2⟩
def bz (s:ByteArray)(i:Nat):Nat:=(s.get! i).toNat
theorem TB (s:ByteArray)(i:Nat):bz s i < 256:=(s.get! i).toNat_lt
theorem Nv (s:ByteArray)(i:Nat)(h:i < s.size):bz s i=(s[i]'h).toNat:=by
 unfold bz
 have:=get_at s i h
 rw [Nat.add_zero] at this
 rw [this]
def inB (s:ByteArray)(i lo hi:Nat):Bool:=lu s.size i (bz s i) lo hi
theorem Qk (s:ByteArray)(i lo hi:Nat)(w:World)(hs:s.size≤1000000000)(hi1:i≤1000000010) :
  Calls Tryz.prog 135 #[.string s,.int .i64 (i:Int),.int .u8 (lo:Int),.int .u8 (hi:Int)] w fun e w'=>e=.returned (.bool (inB s i lo hi))∧w'=w:=by
 by_cases h:i < s.size
 ·have e0:=Nv s i h
  by_cases h1:lo≤(s[i]'h).toNat
  ·by_cases h2:(s[i]'h).toNat≤hi
   ·have e:inB s i lo hi=true:=by unfold inB lu;rw [e0];simp;omega
    have h1':(lo:Int)≤((s[i]'h).toNat:Int):=by omega
    have h2':((s[i]'h).toNat:Int)≤(hi:Int):=by omega
    rw [e]
    clear e e0
    go_enter Tryz.func135,Tryz.ntmps135
    go_wp2
    go_ret
    all_goals (first | exact⟨rfl,rfl⟩ | (refine⟨?_,rfl⟩;simp;omega))
   ·have e:inB s i lo hi=false:=by unfold inB lu;rw [e0];simp;omega
    have h1':(lo:Int)≤((s[i]'h).toNat:Int):=by omega
    have h2':¬((s[i]'h).toNat:Int)≤(hi:Int):=by omega
    rw [e]
    clear e e0
    go_enter Tryz.func135,Tryz.ntmps135
    go_wp2
    go_ret
    all_goals (first | exact⟨rfl,rfl⟩ | (refine⟨?_,rfl⟩;simp;omega))
  ·have e:inB s i lo hi=false:=by unfold inB lu;rw [e0];simp;omega
   have h1':¬(lo:Int)≤((s[i]'h).toNat:Int):=by omega
   rw [e]
   clear e e0
   go_enter Tryz.func135,Tryz.ntmps135
   go_wp2
   go_ret
   all_goals (first | exact⟨rfl,rfl⟩ | (refine⟨?_,rfl⟩;simp;omega))
 ·have e:inB s i lo hi=false:=by unfold inB lu;simp;omega
  rw [e]
  clear e
  go_enter Tryz.func135,Tryz.ntmps135
  go_wp2
  go_ret
  exact⟨rfl,rfl⟩
theorem jm (s:ByteArray)(i lo hi:Nat)(b:Bool)(hb:inB s i lo hi=b)(w:World)(hs:s.size≤1000000000)(hi1:i≤1000000010) :
  Calls Tryz.prog 135 #[.string s,.int .i64 (i:Int),.int .u8 (lo:Int),.int .u8 (hi:Int)] w fun e w'=>e=.returned (.bool b)∧w'=w:=hb ▸ Qk s i lo hi w hs hi1
def lM (s:ByteArray)(i:Nat):Nat→Bool
 | 0=>true
 | n+1=>lM s i n && inB s (i+n) 128 191
theorem Pq (s:ByteArray)(i n:Nat)(w:World)(hs:s.size≤1000000000)(hi1:i≤1000000005)(hn:n≤3) :
  Calls Tryz.prog 136 #[.string s,.int .i64 (i:Int),.int .i64 (n:Int)] w fun e w'=>e=.returned (.bool (lM s i n))∧w'=w:=by
 have HI:=ae (fun k b hb wx hk=>jm s (i+k) 128 191 b hb wx hs (show i+k≤1000000010 by have:k≤3:=hk;omega))
 have mono:∀k,k≤n→lM s i k=false→lM s i n=false:=by
  intro k hk h
  obtain⟨m,rfl⟩:∃m,n=k+m:=⟨n - k,by omega⟩
  clear hk hn
  induction m with
  | zero=>exact h
  | succ m ih=>rw [show k+(m+1)=(k+m)+1 by omega];unfold lM;rw [ih];rfl
 have HM:=ae mono
 clear mono
 go_enter Tryz.func136,Tryz.ntmps136
 go_wp2_with fail
 go_loopw [7] (fun iv wr=>∃k:Nat,k≤n∧iv=.int .i64 (k:Int)∧lM s i k=true∧wr=w) (fun iv _=>n - iW iv)
 case atStart=>exact⟨0,by omega,rfl,rfl,rfl⟩
 case round =>
  obtain⟨k,hk,rfl,ht,rfl⟩:=hrel
  by_cases hlt:k < n
  ·have HT:=ae ht
   clear ht
   have hk3:k≤3:=by omega
   cases hb:inB s (i+k) 128 191
   ·have HC:=ae (fun wx=>HI.out k false hb wx hk3)
    have HB:=ae hb
    clear hb
    go_wp2_with fail
    refine(HC.out _).mono ?_
    rintro e w1 ⟨rfl,rfl⟩
    go_wp2_with fail
    go_ret
    have:lM s i (k+1)=false:=by unfold lM;rw [HB.out];simp
    rw [HM.out (k+1) (by omega) this]
    exact⟨rfl,rfl⟩
   ·have HC:=ae (fun wx=>HI.out k true hb wx hk3)
    have HB:=ae hb
    clear hb
    go_wp2_with fail
    refine(HC.out _).mono ?_
    rintro e w1 ⟨rfl,rfl⟩
    go_wp2_with fail
    exact⟨⟨k+1,by omega,by first | rfl | simp,by unfold lM;rw [HT.out,HB.out];rfl,by trivial⟩,by simp only [iW];omega⟩
  ·obtain rfl:k=n:=by omega
   go_wp2_with fail
   go_ret
   rw [ht]
   exact⟨rfl,rfl⟩
def GH (s:ByteArray)(i:Nat):Bool:=if bz s i=224 then inB s (i+1) 160 191 else if bz s i=237 then inB s (i+1) 128 159 else if bz s i=240 then inB s (i+1) 144 191 else if bz s i=244 then inB s (i+1) 128 143 else inB s (i+1) 128 191
theorem KA (s:ByteArray)(i:Nat)(w:World)(hs:s.size≤1000000000)(h:i < s.size) :
  Calls Tryz.prog 137 #[.string s,.int .i64 (i:Int)] w fun e w'=>e=.returned (.bool (GH s i))∧w'=w:=by
 have HI:=ae (fun lo hi wx=>Qk s (i+1) lo hi wx hs (by omega))
 have e0:=Nv s i h
 have hlt:=TB s i
 unfold GH
 by_cases q0:bz s i=224
 ·rw [aC q0]
  rw [q0] at e0
  have e1:(((s[i]'h).toNat:Nat):Int)=224:=by omega
  clear e0 q0 hlt
  go_enter Tryz.func137,Tryz.ntmps137
  go_wp2_with fail
  refine(HI.out 160 191 _).mono ?_
  rintro e w1 ⟨rfl,rfl⟩
  go_wp2_with fail
  go_ret
  exact⟨rfl,rfl⟩
 by_cases q1:bz s i=237
 ·rw [ax q0,aC q1]
  rw [q1] at e0
  have e1:(((s[i]'h).toNat:Nat):Int)=237:=by omega
  clear e0 q0 q1 hlt
  go_enter Tryz.func137,Tryz.ntmps137
  go_wp2_with fail
  refine(HI.out 128 159 _).mono ?_
  rintro e w1 ⟨rfl,rfl⟩
  go_wp2_with fail
  go_ret
  exact⟨rfl,rfl⟩
 by_cases q2:bz s i=240
 ·rw [ax q0,ax q1,aC q2]
  rw [q2] at e0
  have e1:(((s[i]'h).toNat:Nat):Int)=240:=by omega
  clear e0 q0 q1 q2 hlt
  go_enter Tryz.func137,Tryz.ntmps137
  go_wp2_with fail
  refine(HI.out 144 191 _).mono ?_
  rintro e w1 ⟨rfl,rfl⟩
  go_wp2_with fail
  go_ret
  exact⟨rfl,rfl⟩
 by_cases q3:bz s i=244
 ·rw [ax q0,ax q1,ax q2,aC q3]
  rw [q3] at e0
  have e1:(((s[i]'h).toNat:Nat):Int)=244:=by omega
  clear e0 q0 q1 q2 q3 hlt
  go_enter Tryz.func137,Tryz.ntmps137
  go_wp2_with fail
  refine(HI.out 128 143 _).mono ?_
  rintro e w1 ⟨rfl,rfl⟩
  go_wp2_with fail
  go_ret
  exact⟨rfl,rfl⟩
 ·rw [ax q0,ax q1,ax q2,ax q3]
  have e1:((((s[i]'h).toNat:Nat):Int) == 224)=false:=by simp;omega
  have e2:((((s[i]'h).toNat:Nat):Int) == 237)=false:=by simp;omega
  have e3:((((s[i]'h).toNat:Nat):Int) == 240)=false:=by simp;omega
  have e4:((((s[i]'h).toNat:Nat):Int) == 244)=false:=by simp;omega
  clear e0 q0 q1 q2 q3 hlt
  go_enter Tryz.func137,Tryz.ntmps137
  go_wp2_with fail
  refine(HI.out 128 191 _).mono ?_
  rintro e w1 ⟨rfl,rfl⟩
  go_wp2_with fail
  go_ret
  exact⟨rfl,rfl⟩
def Bi (s:ByteArray)(i:Nat):Nat :=
 if inB s i 0 127=true then 1
 else if(inB s i 194 223 && lM s (i+1) 1)=true then 2
 else if(inB s i 224 239 && GH s i && lM s (i+2) 1)=true then 3
 else if(inB s i 240 244 && GH s i && lM s (i+2) 2)=true then 4
 else 0
theorem wI (s:ByteArray)(i n:Nat)(b:Bool)(hb:lM s i n=b)(w:World)(hs:s.size≤1000000000)(hi1:i≤1000000005)(hn:n≤3) :
  Calls Tryz.prog 136 #[.string s,.int .i64 (i:Int),.int .i64 (n:Int)] w fun e w'=>e=.returned (.bool b)∧w'=w:=hb ▸ Pq s i n w hs hi1 hn
theorem qJ (s:ByteArray)(i:Nat)(b:Bool)(hb:GH s i=b)(w:World)(hs:s.size≤1000000000)(h:i < s.size) :
  Calls Tryz.prog 137 #[.string s,.int .i64 (i:Int)] w fun e w'=>e=.returned (.bool b)∧w'=w:=hb ▸ KA s i w hs h
theorem TU (s:ByteArray)(i:Nat)(w:World)(hs:s.size≤1000000000)(hi:i≤s.size) :
  Calls Tryz.prog 122 #[.string s,.int .i64 (i:Int)] w fun e w'=>e=.returned (.int .i64 ((Bi s i:Nat):Int))∧w'=w:=by
 have hlt:=TB s i
 by_cases q:i < s.size
 ·by_cases c0:bz s i≤127
  ·have hA:inB s i 0 127=true:=by unfold inB lu;simp;omega
   have hlt:=q
   clear c0
   have H0:=ae (fun wx=>jm s i 0 127 true hA wx hs (by omega))
   have es:Bi s i=1:=by unfold Bi;simp [hA]
   rw [es]
   clear es hA
   go_enter Tryz.func122,Tryz.ntmps122
   go_wp2_with fail
   refine(H0.out _).mono ?_
   rintro e w1 ⟨rfl,rfl⟩
   go_wp2_with fail
   go_ret
   exact⟨rfl,rfl⟩
  by_cases c1:bz s i < 194∨245≤bz s i
  ·have hA:inB s i 0 127=false:=by unfold inB lu;simp;omega
   have hB:inB s i 194 223=false:=by unfold inB lu;simp;omega
   have hC:inB s i 224 239=false:=by unfold inB lu;simp;omega
   have hD:inB s i 240 244=false:=by unfold inB lu;simp;omega
   have hlt:=q
   clear c0 c1
   have H0:=ae (fun wx=>jm s i 0 127 false hA wx hs (by omega))
   have H1:=ae (fun wx=>jm s i 194 223 false hB wx hs (by omega))
   have H2:=ae (fun wx=>jm s i 224 239 false hC wx hs (by omega))
   have H3:=ae (fun wx=>jm s i 240 244 false hD wx hs (by omega))
   have es:Bi s i=0:=by unfold Bi;simp [hA,hB,hC,hD]
   rw [es]
   clear es hA hB hC hD
   go_enter Tryz.func122,Tryz.ntmps122
   go_wp2_with fail
   refine(H0.out _).mono ?_
   rintro e w1 ⟨rfl,rfl⟩
   go_wp2_with fail
   refine(H1.out _).mono ?_
   rintro e w1 ⟨rfl,rfl⟩
   go_wp2_with fail
   refine(H2.out _).mono ?_
   rintro e w1 ⟨rfl,rfl⟩
   go_wp2_with fail
   refine(H3.out _).mono ?_
   rintro e w1 ⟨rfl,rfl⟩
   go_wp2_with fail
   go_ret
   exact⟨rfl,rfl⟩
  by_cases c2:bz s i≤223
  ·have hA:inB s i 0 127=false:=by unfold inB lu;simp;omega
   have hB:inB s i 194 223=true:=by unfold inB lu;simp;omega
   have hC:inB s i 224 239=false:=by unfold inB lu;simp;omega
   have hD:inB s i 240 244=false:=by unfold inB lu;simp;omega
   have hlt:=q
   clear c0 c1 c2
   cases hT:lM s (i+1) 1
   ·have H0:=ae (fun wx=>jm s i 0 127 false hA wx hs (by omega))
    have H1:=ae (fun wx=>jm s i 194 223 true hB wx hs (by omega))
    have H2:=ae (fun wx=>wI s (i+1) 1 false hT wx hs (by omega) (by omega))
    have H3:=ae (fun wx=>jm s i 224 239 false hC wx hs (by omega))
    have H4:=ae (fun wx=>jm s i 240 244 false hD wx hs (by omega))
    have es:Bi s i=0:=by unfold Bi;simp [hA,hB,hC,hD,hT]
    rw [es]
    clear es hA hB hC hD hT
    go_enter Tryz.func122,Tryz.ntmps122
    go_wp2_with fail
    refine(H0.out _).mono ?_
    rintro e w1 ⟨rfl,rfl⟩
    go_wp2_with fail
    refine(H1.out _).mono ?_
    rintro e w1 ⟨rfl,rfl⟩
    go_wp2_with fail
    refine(H2.out _).mono ?_
    rintro e w1 ⟨rfl,rfl⟩
    go_wp2_with fail
    refine(H3.out _).mono ?_
    rintro e w1 ⟨rfl,rfl⟩
    go_wp2_with fail
    refine(H4.out _).mono ?_
    rintro e w1 ⟨rfl,rfl⟩
    go_wp2_with fail
    go_ret
    exact⟨rfl,rfl⟩
   ·have H0:=ae (fun wx=>jm s i 0 127 false hA wx hs (by omega))
    have H1:=ae (fun wx=>jm s i 194 223 true hB wx hs (by omega))
    have H2:=ae (fun wx=>wI s (i+1) 1 true hT wx hs (by omega) (by omega))
    have es:Bi s i=2:=by unfold Bi;simp [hA,hB,hC,hD,hT]
    rw [es]
    clear es hA hB hC hD hT
    go_enter Tryz.func122,Tryz.ntmps122
    go_wp2_with fail
    refine(H0.out _).mono ?_
    rintro e w1 ⟨rfl,rfl⟩
    go_wp2_with fail
    refine(H1.out _).mono ?_
    rintro e w1 ⟨rfl,rfl⟩
    go_wp2_with fail
    refine(H2.out _).mono ?_
    rintro e w1 ⟨rfl,rfl⟩
    go_wp2_with fail
    go_ret
    exact⟨rfl,rfl⟩
  by_cases c3:bz s i≤239
  ·have hA:inB s i 0 127=false:=by unfold inB lu;simp;omega
   have hB:inB s i 194 223=false:=by unfold inB lu;simp;omega
   have hC:inB s i 224 239=true:=by unfold inB lu;simp;omega
   have hD:inB s i 240 244=false:=by unfold inB lu;simp;omega
   have hlt:=q
   clear c0 c1 c2 c3
   cases hS:GH s i
   ·have H0:=ae (fun wx=>jm s i 0 127 false hA wx hs (by omega))
    have H1:=ae (fun wx=>jm s i 194 223 false hB wx hs (by omega))
    have H2:=ae (fun wx=>jm s i 224 239 true hC wx hs (by omega))
    have H3:=ae (fun wx=>qJ s i false hS wx hs hlt)
    have H4:=ae (fun wx=>jm s i 240 244 false hD wx hs (by omega))
    have es:Bi s i=0:=by unfold Bi;simp [hA,hB,hC,hD,hS]
    rw [es]
    clear es hA hB hC hD hS
    go_enter Tryz.func122,Tryz.ntmps122
    go_wp2_with fail
    refine(H0.out _).mono ?_
    rintro e w1 ⟨rfl,rfl⟩
    go_wp2_with fail
    refine(H1.out _).mono ?_
    rintro e w1 ⟨rfl,rfl⟩
    go_wp2_with fail
    refine(H2.out _).mono ?_
    rintro e w1 ⟨rfl,rfl⟩
    go_wp2_with fail
    refine(H3.out _).mono ?_
    rintro e w1 ⟨rfl,rfl⟩
    go_wp2_with fail
    refine(H4.out _).mono ?_
    rintro e w1 ⟨rfl,rfl⟩
    go_wp2_with fail
    go_ret
    exact⟨rfl,rfl⟩
   ·cases hT:lM s (i+2) 1
    ·have H0:=ae (fun wx=>jm s i 0 127 false hA wx hs (by omega))
     have H1:=ae (fun wx=>jm s i 194 223 false hB wx hs (by omega))
     have H2:=ae (fun wx=>jm s i 224 239 true hC wx hs (by omega))
     have H3:=ae (fun wx=>qJ s i true hS wx hs hlt)
     have H4:=ae (fun wx=>wI s (i+2) 1 false hT wx hs (by omega) (by omega))
     have H5:=ae (fun wx=>jm s i 240 244 false hD wx hs (by omega))
     have es:Bi s i=0:=by unfold Bi;simp [hA,hB,hC,hD,hS,hT]
     rw [es]
     clear es hA hB hC hD hS hT
     go_enter Tryz.func122,Tryz.ntmps122
     go_wp2_with fail
     refine(H0.out _).mono ?_
     rintro e w1 ⟨rfl,rfl⟩
     go_wp2_with fail
     refine(H1.out _).mono ?_
     rintro e w1 ⟨rfl,rfl⟩
     go_wp2_with fail
     refine(H2.out _).mono ?_
     rintro e w1 ⟨rfl,rfl⟩
     go_wp2_with fail
     refine(H3.out _).mono ?_
     rintro e w1 ⟨rfl,rfl⟩
     go_wp2_with fail
     refine(H4.out _).mono ?_
     rintro e w1 ⟨rfl,rfl⟩
     go_wp2_with fail
     refine(H5.out _).mono ?_
     rintro e w1 ⟨rfl,rfl⟩
     go_wp2_with fail
     go_ret
     exact⟨rfl,rfl⟩
    ·have H0:=ae (fun wx=>jm s i 0 127 false hA wx hs (by omega))
     have H1:=ae (fun wx=>jm s i 194 223 false hB wx hs (by omega))
     have H2:=ae (fun wx=>jm s i 224 239 true hC wx hs (by omega))
     have H3:=ae (fun wx=>qJ s i true hS wx hs hlt)
     have H4:=ae (fun wx=>wI s (i+2) 1 true hT wx hs (by omega) (by omega))
     have es:Bi s i=3:=by unfold Bi;simp [hA,hB,hC,hD,hS,hT]
     rw [es]
     clear es hA hB hC hD hS hT
     go_enter Tryz.func122,Tryz.ntmps122
     go_wp2_with fail
     refine(H0.out _).mono ?_
     rintro e w1 ⟨rfl,rfl⟩
     go_wp2_with fail
     refine(H1.out _).mono ?_
     rintro e w1 ⟨rfl,rfl⟩
     go_wp2_with fail
     refine(H2.out _).mono ?_
     rintro e w1 ⟨rfl,rfl⟩
     go_wp2_with fail
     refine(H3.out _).mono ?_
     rintro e w1 ⟨rfl,rfl⟩
     go_wp2_with fail
     refine(H4.out _).mono ?_
     rintro e w1 ⟨rfl,rfl⟩
     go_wp2_with fail
     go_ret
     exact⟨rfl,rfl⟩
  ·have hA:inB s i 0 127=false:=by unfold inB lu;simp;omega
   have hB:inB s i 194 223=false:=by unfold inB lu;simp;omega
   have hC:inB s i 224 239=false:=by unfold inB lu;simp;omega
   have hD:inB s i 240 244=true:=by unfold inB lu;simp;omega
   have hlt:=q
   clear c0 c1 c2 c3
   cases hS:GH s i
   ·have H0:=ae (fun wx=>jm s i 0 127 false hA wx hs (by omega))
    have H1:=ae (fun wx=>jm s i 194 223 false hB wx hs (by omega))
    have H2:=ae (fun wx=>jm s i 224 239 false hC wx hs (by omega))
    have H3:=ae (fun wx=>jm s i 240 244 true hD wx hs (by omega))
    have H4:=ae (fun wx=>qJ s i false hS wx hs hlt)
    have es:Bi s i=0:=by unfold Bi;simp [hA,hB,hC,hD,hS]
    rw [es]
    clear es hA hB hC hD hS
    go_enter Tryz.func122,Tryz.ntmps122
    go_wp2_with fail
    refine(H0.out _).mono ?_
    rintro e w1 ⟨rfl,rfl⟩
    go_wp2_with fail
    refine(H1.out _).mono ?_
    rintro e w1 ⟨rfl,rfl⟩
    go_wp2_with fail
    refine(H2.out _).mono ?_
    rintro e w1 ⟨rfl,rfl⟩
    go_wp2_with fail
    refine(H3.out _).mono ?_
    rintro e w1 ⟨rfl,rfl⟩
    go_wp2_with fail
    refine(H4.out _).mono ?_
    rintro e w1 ⟨rfl,rfl⟩
    go_wp2_with fail
    go_ret
    exact⟨rfl,rfl⟩
   ·cases hT:lM s (i+2) 2
    ·have H0:=ae (fun wx=>jm s i 0 127 false hA wx hs (by omega))
     have H1:=ae (fun wx=>jm s i 194 223 false hB wx hs (by omega))
     have H2:=ae (fun wx=>jm s i 224 239 false hC wx hs (by omega))
     have H3:=ae (fun wx=>jm s i 240 244 true hD wx hs (by omega))
     have H4:=ae (fun wx=>qJ s i true hS wx hs hlt)
     have H5:=ae (fun wx=>wI s (i+2) 2 false hT wx hs (by omega) (by omega))
     have es:Bi s i=0:=by unfold Bi;simp [hA,hB,hC,hD,hS,hT]
     rw [es]
     clear es hA hB hC hD hS hT
     go_enter Tryz.func122,Tryz.ntmps122
     go_wp2_with fail
     refine(H0.out _).mono ?_
     rintro e w1 ⟨rfl,rfl⟩
     go_wp2_with fail
     refine(H1.out _).mono ?_
     rintro e w1 ⟨rfl,rfl⟩
     go_wp2_with fail
     refine(H2.out _).mono ?_
     rintro e w1 ⟨rfl,rfl⟩
     go_wp2_with fail
     refine(H3.out _).mono ?_
     rintro e w1 ⟨rfl,rfl⟩
     go_wp2_with fail
     refine(H4.out _).mono ?_
     rintro e w1 ⟨rfl,rfl⟩
     go_wp2_with fail
     refine(H5.out _).mono ?_
     rintro e w1 ⟨rfl,rfl⟩
     go_wp2_with fail
     go_ret
     exact⟨rfl,rfl⟩
    ·have H0:=ae (fun wx=>jm s i 0 127 false hA wx hs (by omega))
     have H1:=ae (fun wx=>jm s i 194 223 false hB wx hs (by omega))
     have H2:=ae (fun wx=>jm s i 224 239 false hC wx hs (by omega))
     have H3:=ae (fun wx=>jm s i 240 244 true hD wx hs (by omega))
     have H4:=ae (fun wx=>qJ s i true hS wx hs hlt)
     have H5:=ae (fun wx=>wI s (i+2) 2 true hT wx hs (by omega) (by omega))
     have es:Bi s i=4:=by unfold Bi;simp [hA,hB,hC,hD,hS,hT]
     rw [es]
     clear es hA hB hC hD hS hT
     go_enter Tryz.func122,Tryz.ntmps122
     go_wp2_with fail
     refine(H0.out _).mono ?_
     rintro e w1 ⟨rfl,rfl⟩
     go_wp2_with fail
     refine(H1.out _).mono ?_
     rintro e w1 ⟨rfl,rfl⟩
     go_wp2_with fail
     refine(H2.out _).mono ?_
     rintro e w1 ⟨rfl,rfl⟩
     go_wp2_with fail
     refine(H3.out _).mono ?_
     rintro e w1 ⟨rfl,rfl⟩
     go_wp2_with fail
     refine(H4.out _).mono ?_
     rintro e w1 ⟨rfl,rfl⟩
     go_wp2_with fail
     refine(H5.out _).mono ?_
     rintro e w1 ⟨rfl,rfl⟩
     go_wp2_with fail
     go_ret
     exact⟨rfl,rfl⟩
 ·have hA:inB s i 0 127=false:=by unfold inB lu;simp;omega
  have hB:inB s i 194 223=false:=by unfold inB lu;simp;omega
  have hC:inB s i 224 239=false:=by unfold inB lu;simp;omega
  have hD:inB s i 240 244=false:=by unfold inB lu;simp;omega
  have H0:=ae (fun wx=>jm s i 0 127 false hA wx hs (by omega))
  have H1:=ae (fun wx=>jm s i 194 223 false hB wx hs (by omega))
  have H2:=ae (fun wx=>jm s i 224 239 false hC wx hs (by omega))
  have H3:=ae (fun wx=>jm s i 240 244 false hD wx hs (by omega))
  have es:Bi s i=0:=by unfold Bi;simp [hA,hB,hC,hD]
  rw [es]
  clear es hA hB hC hD
  go_enter Tryz.func122,Tryz.ntmps122
  go_wp2_with fail
  refine(H0.out _).mono ?_
  rintro e w1 ⟨rfl,rfl⟩
  go_wp2_with fail
  refine(H1.out _).mono ?_
  rintro e w1 ⟨rfl,rfl⟩
  go_wp2_with fail
  refine(H2.out _).mono ?_
  rintro e w1 ⟨rfl,rfl⟩
  go_wp2_with fail
  refine(H3.out _).mono ?_
  rintro e w1 ⟨rfl,rfl⟩
  go_wp2_with fail
  go_ret
  exact⟨rfl,rfl⟩
theorem Rf (s:ByteArray)(i:Nat)(hi:i≤s.size):Bi s i=kS (s.data.toList.drop i):=by
 by_cases h:i < s.size
 ·have hsz:s.data.toList.length=s.size:=by rw [Array.length_toList];rfl
  have hne:s.data.toList.drop i≠[]:=by
   intro e
   have:=bW List.length e
   rw [aS,hsz] at this
   simp at this
   omega
  rw [Pv _ hne,aS,hsz]
  have g:∀k,(((s.data.toList.drop i).getD k 0).toNat=bz s (i+k)):=by
   intro k
   unfold bz
   rw [dV,oM]
   by_cases hk:i+k < s.size
   ·rw [ay (by rw [hsz];exact hk)]
    show(s.data.toList[i+k]'(by rw [hsz];exact hk)).toNat=(s.get! (i+k)).toNat
    congr 1
    rw [Array.getElem_toList]
    show _=s.data[i+k]!
    rw [XJ s.data (i+k) hk]
   ·rw [bQ (by rw [hsz];omega)]
    show _=(s.data[i+k]!).toNat
    rw [XK s.data (i+k) hk]
    rfl
  rw [g,g,g,g,Nat.add_zero]
  have e0:∀k lo hi,inB s (i+k) lo hi=lu (s.size - i) k (bz s (i+k)) lo hi:=by
   intro k lo hi
   unfold inB lu
   rw [show decide (i+k < s.size)=decide (k < s.size - i) from decide_eq_decide.2 (by omega)]
  have e00:∀lo hi,inB s i lo hi=lu (s.size - i) 0 (bz s i) lo hi:=fun lo hi=>e0 0 lo hi
  have e1:lM s (i+1) 1=lu (s.size - i) 1 (bz s (i+1)) 128 191:=by
   unfold lM lM
   rw [wY,Nat.add_zero,e0]
  have e2:lM s (i+2) 1=lu (s.size - i) 2 (bz s (i+2)) 128 191:=by
   unfold lM lM
   rw [wY,Nat.add_zero,e0]
  have e3:lM s (i+2) 2=(lu (s.size - i) 2 (bz s (i+2)) 128 191 && lu (s.size - i) 3 (bz s (i+3)) 128 191):=by
   show(lM s (i+2) 1 && inB s (i+2+1) 128 191)=_
   rw [e2,show i+2+1=i+3 by omega,e0]
  have e4:GH s i=tJ (s.size - i) (bz s i) (bz s (i+1)):=by
   unfold GH tJ
   rw [e0,e0,e0,e0,e0]
  unfold Bi IJ
  rw [e00,e00,e00,e00,e1,e2,e3,e4]
 ·obtain rfl:i=s.size:=by omega
  have hA:inB s s.size 0 127=false:=by unfold inB lu;simp
  have hB:inB s s.size 194 223=false:=by unfold inB lu;simp
  have hC:inB s s.size 224 239=false:=by unfold inB lu;simp
  have hD:inB s s.size 240 244=false:=by unfold inB lu;simp
  have e:s.data.toList.drop s.size=[]:=fK (by rw [Array.length_toList];exact au _)
  rw [e]
  unfold Bi kS
  simp [hA,hB,hC,hD]
theorem size_any (s:ByteArray)(i:Nat)(w:World)(hs:s.size≤1000000000)(hi:i≤s.size) :
  Calls Tryz.prog 122 #[.string s,.int .i64 (i:Int)] w fun e w'=>e=.returned (.int .i64 ((kS (s.data.toList.drop i):Nat):Int))∧w'=w:=by
 rw [← Rf s i hi]
 exact TU s i w hs hi
end Go.Proofs.YtfelmdkeaacfeaaGreatDoor.W
end
