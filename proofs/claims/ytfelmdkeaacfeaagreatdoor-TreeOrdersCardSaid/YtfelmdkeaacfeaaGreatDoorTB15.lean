/- Texts joined: Mcut Doc MinsP TwA. -/
import Derived.Test.YtfelmdkeaacfeaaGreatDoorTB1
import Derived.Test.YtfelmdkeaacfeaaGreatDoorTB14
import Derived.Test.YtfelmdkeaacfeaaGreatDoorTB6
import Derived.Deep.RegionLaw
import Derived.Deep.RegionHeld3
import Derived.Test.YtfelmdkeaacfeaaGreatDoorTB11
import Derived.Test.YtfelmdkeaacfeaaGreatDoorTB13
import Derived.Test.YtfelmdkeaacfeaaGreatDoorTB8
set_option maxRecDepth 100000
set_option maxHeartbeats 40000000
set_option linter.unusedVariables false
set_option linter.unusedSimpArgs false
section
namespace Go.Proofs.YtfelmdkeaacfeaaGreatDoor.W
open Go.RowKit
theorem DF {w:World}{r:Nat}(h:dD w r (recC 0 0 0 0 0 0 [] [] false 0 0) 144) :
  (w.cell? ⟨r,0,none⟩=some (.int .i64 0)∧w.cell? ⟨r,1,none⟩=some (.int .i64 0)∧w.cell? ⟨r,2,none⟩=some (.int .i64 0)∧w.cell? ⟨r,3,none⟩=some (.int .i64 0)∧w.cell? ⟨r,4,none⟩=some (.int .i64 0)∧w.cell? ⟨r,5,none⟩=some (.int .i64 0) ∧
   w.cell? ⟨r,6,none⟩=some (dA [])∧w.cell? ⟨r,7,none⟩=some (dA [])∧w.cell? ⟨r,8,none⟩=some (.bool false)∧w.cell? ⟨r,9,none⟩=some (.int .i64 0)∧w.cell? ⟨r,10,none⟩=some (.int .i64 0))∧∀j,w.frozen? ⟨r,j,none⟩=false :=
 ⟨⟨h.cell 0,h.cell 1,h.cell 2,h.cell 3,h.cell 4,h.cell 5,h.cell 6,h.cell 7,h.cell 8,h.cell 9,h.cell 10⟩,h.free⟩
theorem I5 {w:World}{r:Nat}(h:dD w r (recC 0 0 0 0 0 0 [] [] false 0 0) 144)(a b c d e f:Int)(n o:ByteArray)(x:Bool)(y z:Int) :
  (((((((((((w.setCell ⟨r,0,none⟩ (.int .i64 a)).setCell ⟨r,1,none⟩ (.int .i64 b)).setCell ⟨r,2,none⟩ (.int .i64 c)).setCell ⟨r,3,none⟩ (.int .i64 d)).setCell ⟨r,4,none⟩ (.int .i64 e)).setCell ⟨r,5,none⟩ (.int .i64 f)).setCell ⟨r,6,none⟩ (.string n)).setCell ⟨r,7,none⟩ (.string o)).setCell ⟨r,8,none⟩ (.bool x)).setCell ⟨r,9,none⟩ (.int .i64 y)).setCell ⟨r,10,none⟩ (.int .i64 z)).heap[r]? =
   some (.cells #[.int .i64 a,.int .i64 b,.int .i64 c,.int .i64 d,.int .i64 e,.int .i64 f,.string n,.string o,.bool x,.int .i64 y,.int .i64 z] 144 (0,0)) :=
 ((((((((((h.set 0 (.int .i64 a)).set 1 (.int .i64 b)).set 2 (.int .i64 c)).set 3 (.int .i64 d)).set 4 (.int .i64 e)).set 5 (.int .i64 f)).set 6 (.string n)).set 7 (.string o)).set 8 (.bool x)).set 9 (.int .i64 y)).set 10 (.int .i64 z)
theorem PL {w:World}{r:Nat}{G:World→Prop}(h:dD w r (recC 0 0 0 0 0 0 [] [] false 0 0) 144)(a b c d e f:Int)(n o:ByteArray)(x:Bool)(y z:Int)
  (hG:∀w',dD w' r [.int .i64 a,.int .i64 b,.int .i64 c,.int .i64 d,.int .i64 e,.int .i64 f,.string n,.string o,.bool x,.int .i64 y,.int .i64 z] 144→dU (fun k=>k=r) w w'→G w') :
  G (((((((((((w.setCell ⟨r,0,none⟩ (.int .i64 a)).setCell ⟨r,1,none⟩ (.int .i64 b)).setCell ⟨r,2,none⟩ (.int .i64 c)).setCell ⟨r,3,none⟩ (.int .i64 d)).setCell ⟨r,4,none⟩ (.int .i64 e)).setCell ⟨r,5,none⟩ (.int .i64 f)).setCell ⟨r,6,none⟩ (.string n)).setCell ⟨r,7,none⟩ (.string o)).setCell ⟨r,8,none⟩ (.bool x)).setCell ⟨r,9,none⟩ (.int .i64 y)).setCell ⟨r,10,none⟩ (.int .i64 z)) :=
 hG _ (I5 h a b c d e f n o x y z) (wL w r _ _ _ _ _ _ _ _ _ _ _)
theorem Qh:(Tryz.prog.info? 144).map (·.size)=some 11:=by kernel_rfl
theorem sS:ET Tryz.prog 31 3 1 8:=ET.mk' (z:=.int .i64 0) Tryz.underlying31 (by kernel_rfl) rfl (by omega)
theorem D9 (l:List Nat):(kC l).length=l.length:=by simp [kC]
theorem AV (l:List Nat):∀u∈kC l,u.oneCell'=true:=by
 intro u hu
 obtain⟨k,_,rfl⟩:=bC.1 hu
 rfl
theorem Ll (a b:List Nat):kC a ++ kC b=kC (a ++ b):=by simp [kC]
theorem Af.Ou {Q g cap:Nat}{X:List MX}{w:World}(h:Af Q (.slice (some ⟨g,0,none⟩) X.length cap) X w)(j:Nat):w.frozen? ⟨g,j,none⟩=false:=h.row.frozenAt j
theorem TG {a:Option Addr}(c:Nat){l:List Nat}(w:World)(h:w.ownsRow 0 3 1 (.slice a l.length c) l.length (kC l))(hl:l.length≤1000000)(j:Nat) :
  Calls Tryz.prog 96 #[.slice a l.length c,.int .i64 ((j:Int) - 1)] w fun e w'=>e=.returned (.int .i64 (pI (pv l j)))∧w'=w:=by
 have e:pv l j=if 0≤(j:Int) - 1 then l[((j:Int) - 1).toNat]? else none:=by
  unfold pv
  by_cases q:j=0
  ·rw [aC q,ax (by omega)]
  ·rw [ax q,aC (by omega),show((j:Int) - 1).toNat=j - 1 by omega]
 rw [e]
 exact at_in a c l _ w h hl
theorem QR {a:Option Addr}(c:Nat){l:List Nat}(w:World)(h:w.ownsRow 0 3 1 (.slice a l.length c) l.length (kC l))(hl:l.length≤1000000)(j:Nat) :
  Calls Tryz.prog 96 #[.slice a l.length c,.int .i64 (j:Int)] w fun e w'=>e=.returned (.int .i64 (pI l[j]?))∧w'=w:=by
 have:=at_in a c l (j:Int) w h hl
 rw [aC (by omega),Int.toNat_natCast] at this
 exact this
theorem uh (X:List MX)(i:Nat)(x:MX):ms (X.set i x)=(ms X).set i x.m:=by unfold ms;rw [List.map_set]
theorem zF {Q g cap p:Nat}{X:List MX}{w w5:World}{xp:MX}(h:jC Q (.slice (some ⟨g,0,none⟩) X.length cap) X w)(hp:X[p]? = some xp){va:Option Addr}{n vc:Nat}{ks:List Nat}{l:List Ob}
  (hA:All w.heap.size w (sl 3 1 (.slice va n vc) n (kC ks) :: l) w5) :
  ∃X',fU Q (.slice (some ⟨g,0,none⟩) X.length cap) X w (.slice (some ⟨g,0,none⟩) X'.length cap) X' (w5.setCell ⟨g,p*7+5,none⟩ (.slice va n vc))∧X'.length=X.length∧(∀i,i≠p→X'[i]? = X[i]?) ∧
   (∃v,X'[p]? = some { xp with kv:=v,m:={ xp.m with kids:=ks } })∧ms X'=(ms X).set p { xp.m with kids:=ks }∧∀o∈l,o.P (w5.setCell ⟨g,p*7+5,none⟩ (.slice va n vc)):=by
 have h5:=h.below hA.below
 have ho:Own w5 3 1 (.slice va n vc) n (kC ks):=hA.head
 have hn:ks.length=n:=by have:=ho.1;rw [D9] at this;omega
 subst hn
 have hfr:∀b,(Value.slice va ks.length vc).ownBlock=some b→w.heap.size≤b:=fun b hb=>hA.base _ (List.Mem.head _) b hb
 have hpm:=ah hp
 have hat:=h5.put hp { xp with kv:=.slice va ks.length vc,m:={ xp.m with kids:=ks } } (.slice va ks.length vc) (by omega) (j:=5) rfl (h5.W.sF xp hpm) ho (.inl rfl)
  (.inr fun b hb y hy e=>by have:=hfr b hb;have:=jy (h.W.kid y hy) e;omega)
 refine⟨X.set p { xp with kv:=.slice va ks.length vc,m:={ xp.m with kids:=ks } },⟨by rw [dI];exact hat,(dU.of_below hA.below).setCell ⟨g,p*7+5,none⟩ (fun _=>.inr (.inl rfl)) _,fun k hk=>?_⟩,dI,fun i hi=>jM (fun e=>hi e.symm),⟨_,iR (ai.1 hp).1⟩,uh _ _ _,fun o ho=>?_⟩
 rotate_left
 ·refine o.loc w5 _ (hA.P o (gX _ ho)) fun b hb=>aF _ _ _ _ (fun e=>?_)
  have h1:=hA.base o (gX _ ho) b hb
  have h2:=jy h.W.row (k:=g) rfl
  rw [show b=g from e] at h1
  omega
 rcases hk with rfl | hk | ⟨y,hy,hk⟩
 ·exact .inl (.inl rfl)
 ·exact .inl (.inr (.inl hk))
 ·rcases qp hy with hy | rfl
  ·exact .inl (.inr (.inr ⟨y,hy,hk⟩))
  ·rcases hk with hk | hk
   ·exact .inl (.inr (.inr ⟨xp,hpm,.inl hk⟩))
   ·exact .inr (hfr k hk)
theorem CP {Q g cap c:Nat}{X:List MX}{w:World}{xc:MX}(h:jC Q (.slice (some ⟨g,0,none⟩) X.length cap) X w)(hc:X[c]? = some xc)(o:Option Nat) :
  ∃X',fU Q (.slice (some ⟨g,0,none⟩) X.length cap) X w (.slice (some ⟨g,0,none⟩) X'.length cap) X' (w.setCell ⟨g,c*7+4,none⟩ (.int .i64 (pI o)))∧X'.length=X.length∧(∀i,i≠c→X'[i]? = X[i]?)∧X'[c]? = some { xc with m:={ xc.m with par:=o } }∧ms X'=(ms X).set c { xc.m with par:=o }:=by
 have hm:=ah hc
 have hat:=h.put hc { xc with m:={ xc.m with par:=o } } (.int .i64 (pI o)) (by omega) (j:=4) rfl (h.W.sF xc hm) (h.W.kid xc hm) (.inl rfl) (.inl rfl)
 refine⟨X.set c { xc with m:={ xc.m with par:=o } },⟨by rw [dI];exact hat,(dU.refl _ w).setCell ⟨g,c*7+4,none⟩ (fun _=>.inr (.inl rfl)) _,fun k hk=>?_⟩,dI,fun i hi=>jM (fun e=>hi e.symm),iR (ai.1 hc).1,uh _ _ _⟩
 rcases hk with rfl | hk | ⟨y,hy,hk⟩
 ·exact .inl (.inl rfl)
 ·exact .inl (.inr (.inl hk))
 ·rcases qp hy with hy | rfl
  ·exact .inl (.inr (.inr ⟨y,hy,hk⟩))
  ·exact .inl (.inr (.inr ⟨xc,hm,hk⟩))
theorem fU.other {Q:Nat}{nv nv1:Value}{X X1:List MX}{w w1 w2:World}{G:Nat→Prop}(h:fU Q nv X w nv1 X1 w1)(hc:dU G w1 w2)(hG:∀k,G k→w.heap.size≤k∧¬Tj Q nv1 X1 k):fU Q nv X w nv1 X1 w2:=by
 have hP:=(ui Q nv1 X1).loc w1 w2 h.at_ (fun k hk=>hc.block k ((ui Q nv1 X1).here w1 h.at_ k hk) (fun hg=>(hG k hg).2 hk))
 exact⟨hP,h.qU.trans hc (fun i hi hg=>by have:=(hG i hg).1;omega),h.new⟩
theorem CU {Q g cap:Nat}{X:List MX}{w:World}(h:jC Q (.slice (some ⟨g,0,none⟩) X.length cap) X w):g < w.heap.size:=jy h.W.row rfl
def uH (M:List MN)(p j c:Nat):List MN:=M.mapIdx fun x m=>{ m with kids:=if x=p then m.kids.eraseIdx j else m.kids,par:=if x=c then none else m.par }
theorem UH (M:List MN)(p j c:Nat)(mp mc:MN)(hp:M[p]? = some mp)(hc:M[c]? = some mc)(hpc:p≠c) :
  (M.set p { mp with kids:=mp.kids.eraseIdx j }).set c { mc with par:=none }=uH M p j c:=by
 apply gu
 intro x
 unfold uH
 rw [dB,dH,dH,dI]
 have lp:=(ai.1 hp).1
 have lc:=(ai.1 hc).1
 by_cases e1:c=x
 ·subst e1
  have hcp:¬c=p:=fun e=>hpc e.symm
  rw [aC rfl,aC lc,hc]
  simp [hcp]
 ·rw [ax e1]
  by_cases e2:p=x
  ·subst e2
   rw [aC rfl,aC lp,hp]
   simp [hpc]
  ·rw [ax e2]
   cases M[x]? with
   | none=>rfl
   | some m =>
    have h1:¬x=c:=fun e=>e1 e.symm
    have h2:¬x=p:=fun e=>e2 e.symm
    simp [h1,h2]
theorem Jk {Q g cap:Nat}{X:List MX}{D:Nat→Nat}{w:World}(h:jC Q (.slice (some ⟨g,0,none⟩) X.length cap) X w)(hW:MW (ms X) D){p j c:Nat}{mc mp:MN}(hc:lv (ms X) c=some mc)(hcp:mc.par=some p)(hp:lv (ms X) p=some mp)(hj:mp.kids[j]? = some c) :
  Calls Tryz.prog 97 #[.pointer (some ⟨Q,0,none⟩),.int .i64 (c:Int)] w fun e w'=>∃X',ms X'=uH (ms X) p j c∧e=.returned (.agg (recC 2 p c (pI (pv mp.kids j)) (pI mp.kids[j+1]?) j [] [] false 0 0).toArray) ∧
   fU Q (.slice (some ⟨g,0,none⟩) X.length cap) X w (.slice (some ⟨g,0,none⟩) X'.length cap) X' w':=by
 have hf:=hW.few
 rw [aY] at hf
 have hpc:p≠c:=fun e=>by
  obtain⟨_,_,_,hd⟩:=hW.par c mc p hc hcp
  rw [e] at hd
  omega
 have hkl:=hW.Lj hp
 have lp:=lU hp
 have lc:=lU hc
 have hjl:=(ai.1 hj).1
 have HI:=ae (fun wx (hb:Below w.heap.size w wx)=>DU (h.below hb).W hW hc hcp hp hj)
 obtain⟨xp,hxp,exp,hgp⟩:=qG hp
 obtain⟨xc,hxc,exc,hgc⟩:=qG hc
 subst exp
 subst exc
 have HQ:=ae (fun wx (hb:Below w.heap.size w wx)=>(h.below hb).W.ptr)
 have HC4:=ae (fun wx (hb:Below w.heap.size w wx)=>(h.below hb).W.cell hxc 4 (by omega))
 simp only [qZ,fQ,fP,hcp] at HC4
 obtain⟨gk,kc,hkv,hkc⟩:=sK (h.W.kid xp (ah hxp)) (by omega)
 have HC5:=ae (fun wx (hb:Below w.heap.size w wx)=>(h.below hb).W.cell hxp 5 (by omega))
 simp only [qZ,fQ,fP,hkv] at HC5
 have HKO:=ae (fun wx (hb:Below w.heap.size w wx)=>(show Own wx 3 1 (.slice (some ⟨gk,0,none⟩) xp.m.kids.length kc) xp.m.kids.length (kC xp.m.kids) from by
  have:=(h.below hb).W.kid xp (ah hxp)
  rw [hkv] at this
  exact this))
 obtain⟨z1,hz1⟩:∃z,z=pI (pv xp.m.kids j):=⟨_,rfl⟩
 obtain⟨z2,hz2⟩:∃z,z=pI xp.m.kids[j+1]?:=⟨_,rfl⟩
 rw [← hz1,← hz2]
 have HA1:=ae (fun wx (hb:Below w.heap.size w wx)=>(TG kc wx (HKO.out wx hb) (by omega) j))
 have HA2':=ae (fun wx (hb:Below w.heap.size w wx)=>(QR kc wx (HKO.out wx hb) (by omega) (j+1)))
 rw [← hz1] at HA1
 rw [← hz2] at HA2'
 rw [Int.natCast_add] at HA2'
 have HZ1:=ae hz1
 have HZ2:=ae hz2
 clear hz1 hz2
 have HF:=ae (fun wx (hb:Below w.heap.size w wx)=>(h.below hb).W.Ou)
 have HH:=ae h
 have hQ:=h.W.blk.lt
 have hgl:=jy h.W.row (k:=g) rfl
 have hkgl:=jy (HKO.out w (ak _ _)) (k:=gk) rfl
 have HP:=ae hxp
 have HCx:=ae hxc
 clear h hc hp hxp hxc hcp hj
 go_enter Tryz.func97,Tryz.ntmps97
 go_wp2_with fail
 go_upto_region 1 with fail
 have hA1:All w.heap.size w [bk w.heap.size (recC 0 0 0 0 0 0 [] [] false 0 0) 144] (w.alloc (.cells (recC 0 0 0 0 0 0 [] [] false 0 0).toArray 144)):=(All.start w).sO _ _
 change All w.heap.size w _ (w.alloc (.cells #[.int .i64 0,.int .i64 0,.int .i64 0,.int .i64 0,.int .i64 0,.int .i64 0,.string ⟨#[]⟩,.string ⟨#[]⟩,.bool false,.int .i64 0,.int .i64 0] 144)) at hA1
 generalize w.alloc (.cells #[.int .i64 0,.int .i64 0,.int .i64 0,.int .i64 0,.int .i64 0,.int .i64 0,.string ⟨#[]⟩,.string ⟨#[]⟩,.bool false,.int .i64 0,.int .i64 0] 144)=w1 at *
 have hb1:Below w.heap.size w w1:=hA1.below
 have hl1:=hb1.size
 have x0:∀x:dS (jc w1),x.w.cell? ⟨Q,0,none⟩=some (.slice (some ⟨g,0,none⟩) X.length cap):=fun x=>HQ.out _ (aV hb1 x.h)
 have x4:∀x:dS (jc w1),x.w.cell? ⟨g,c*7+4,none⟩=some (.int .i64 (p:Int)):=fun x=>HC4.out _ (aV hb1 x.h)
 have hne:=gI w1
 refine oP (fun _=>.int .i64 (j:Int)) 11 (by kernel_rfl) (by kernel_rfl) ?_
 simp only [mD,mr,l9,lZ]
 repeat (first
  | (refine aN (by rfl) (by rfl) (fun K hK=>?_);go_big_quiet_step (fail);refine az ?_;refine hK.out _ ?_;clear hK K)
  | (refine aK (by rfl) ?_;simp only [Act.put,dL,dK,dJ]))
 refine dM (.int .i64 (j:Int)) rfl (by rfl) (by rfl) (fun w=>by go_simp;exact⟨rfl,rfl⟩) ?_ ?_
 ·intro Y wx hx
  refine(HI.out _ (aV hb1 hx)).mono ?_
  rintro e wz ⟨rfl,hw⟩
  subst wz
  exact⟨rfl,hx⟩
 simp only [Act.put,dL,dK,dJ]
 repeat (first
  | (refine aN (by rfl) (by rfl) (fun K hK=>?_);go_big_quiet_step (fail);refine az ?_;refine hK.out _ ?_;clear hK K)
  | (refine aK (by rfl) ?_;simp only [Act.put,dL,dK,dJ]))
 refine eH ?_
 intro w2 h2
 clear x0 x4 hne
 have hA2:=hA1.still h2
 have hb2:Below w.heap.size w w2:=hA2.below
 have c0:=HQ.out _ hb2
 have c5:=HC5.out _ hb2
 have HA2:=ae hA2
 clear hA1 hA2 h2
 go_wp2_with fail
 refine(HA1.out _ hb2).mono ?_
 rintro e wz ⟨rfl,hw⟩
 subst wz
 go_wp2_with fail
 refine(HA2'.out _ hb2).mono ?_
 rintro e wz ⟨rfl,hw⟩
 subst wz
 go_upto_region 4 with fail
 have hA3:=HA2.out.PT w2.heap.size rfl (recC 2 p c z1 z2 j [] [] false 0 0) 144
 change All w.heap.size w _ (w2.alloc (.cells #[.int .i64 2,.int .i64 (p:Int),.int .i64 (c:Int),.int .i64 z1,.int .i64 z2,.int .i64 (j:Int),.string ⟨#[]⟩,.string ⟨#[]⟩,.bool false,.int .i64 0,.int .i64 0] 144)) at hA3
 generalize w2.alloc (.cells #[.int .i64 2,.int .i64 (p:Int),.int .i64 (c:Int),.int .i64 z1,.int .i64 z2,.int .i64 (j:Int),.string ⟨#[]⟩,.string ⟨#[]⟩,.bool false,.int .i64 0,.int .i64 0] 144)=W at *
 have hb3:Below w.heap.size w W:=hA3.below
 have e0:=HQ.out _ hb3
 have hQW:=aO hQ hb3.size
 have hgW:=aO hgl hb3.size
 have hkW:=aO hkgl hb3.size
 have ea:∀o,(W.alloc o).cell? ⟨Q,0,none⟩=some (.slice (some ⟨g,0,none⟩) X.length cap):=fun o=>(fF _ _ _ hQW).trans e0
 have HA3:=ae hA3
 have hn:=HA3.out.drew.sN 3 1 0 [] rfl (by omega)
 have HN:=ae hn
 have HK3:=ae (HKO.out _ hn.below)
 have T1:=ae (show(kC (xp.m.kids.take j)).length=j*1 from by rw [D9,fC];omega)
 have T2:=ae (show ∀wx,Below w.heap.size w wx→∀t u,(kC (xp.m.kids.take j))[t]? = some u→wx.cell? ((⟨gk,0,none⟩:Addr).add t)=some u from fun wx hb t u hu=>by
  refine iM (HKO.out wx hb) t u ?_
  unfold kC at hu ⊢
  rw [Yc] at hu
  rw [eX] at hu
  split at hu
  ·exact hu
  ·cases hu)
 have T3:=ae (AV (xp.m.kids.take j))
 have U1:=ae (show(kC (xp.m.kids.drop (j+1))).length=(xp.m.kids.length - (j+1))*1 from by rw [D9,aS];omega)
 have U3:=ae (AV (xp.m.kids.drop (j+1)))
 have U2:=ae (show ∀wx,Below w.heap.size w wx→∀t u,(kC (xp.m.kids.drop (j+1)))[t]? = some u→wx.cell? ((⟨gk,j+1,none⟩:Addr).add t)=some u from fun wx hb t u hu=>by
  have:=iM (HKO.out wx hb) (j+1+t) u (by
   unfold kC at hu ⊢
   rw [Yd,oM] at hu
   exact hu)
  rw [aP] at this ⊢
  rw [show 0+(j+1+t)=j+1+t by omega] at this
  exact this)
 have U2':=ae (show kc=j+1→∀wx,Below w.heap.size w wx→∀t u,(kC (xp.m.kids.drop (j+1)))[t]? = some u→wx.cell? ((⟨gk,0,none⟩:Addr).add t)=some u from fun hk wx hb t u hu=>by
  rw [fK (by omega)] at hu
  cases hu)
 have HE2:=ae (show kC (xp.m.kids.take j) ++ kC (xp.m.kids.drop (j+1))=kC (xp.m.kids.eraseIdx j) from by rw [Ll,jU])
 have HE1:=ae (show kc=j+1→kC (xp.m.kids.take j)=kC (xp.m.kids.eraseIdx j) from fun e=>by rw [jU,fK (by omega),aT])
 have hQg:Q≠g:=fun e=>by
  have h1:=HH.out.W.blk
  obtain⟨cg,hg⟩:=dF HH.out.W.row (b:=g) rfl
  rw [e] at h1
  exact dw h1 hg (by decide) rfl
 have hgQ:g≠Q:=fun e=>hQg e.symm
 have hjk:(j:Int)≤(kc:Int):=by omega
 have hj1:(j:Int)+1≤(xp.m.kids.length:Int):=by omega
 have hj2:(j:Int)≤(j:Int)+1:=by omega
 have hwr:IntKind.i64.wrap ((j:Int)+1)=(j:Int)+1:=XR _ (by omega) (by omega)
 have hj4:((j:Int)+1).toNat=j+1:=by omega
 have hj5:(0:Int)≤(j:Int)+1:=by omega
 clear hA3 hn
 have fin:True:=trivial
 by_cases hce:kc=j+1
 case' pos =>
  subst hce
  go_region_held3 (fun w'=>w'.cell? ⟨Q,0,none⟩=some (.slice (some ⟨g,0,none⟩) X.length cap)) (first | exact e0 | exact ea _ | exact e4 | exact e5 | (go_keep;done)) (first
   | (refine bU sS [] HN.out T1.out (T2.out _ HN.out.below) T3.out (by omega) (by omega) (by rfl) _ _ (by rfl) (by rfl) (by rfl) ?_;intro v' w4 hA4 hv4;have e4:=HQ.out _ hA4.below;simp only [List.nil_append,aJ] at hA4;obtain⟨va,vc,rfl⟩:=aW (show Own _ _ _ _ _ _ from hA4.head);have HA4:=ae hA4;have HV4:=ae hv4;clear hA4 hv4)
   | (refine bU sS [] HA4.out (m:=0) (ys:=[]) rfl (fun t u hu=>by cases hu) (fun u hu=>by cases hu) (by omega) (by omega) (by rfl) _ _ (by rfl) (by rfl) (by rfl) ?_;intro v' w5 hA5 hv5;have e5:=HQ.out _ hA5.below;have f5:=HC5.out _ hA5.below;have z5:=HF.out _ hA5.below (p*7+5);simp only [List.nil_append,aT,Nat.add_zero] at hA5;rw [HE1.out rfl] at hA5;obtain⟨va2,vc2,rfl⟩:=aW (show Own _ _ _ _ _ _ from hA5.head);have HA5:=ae hA5;have HV5:=ae hv5;clear hA5 hv5))
 case' neg =>
  go_region_held3 (fun w'=>w'.cell? ⟨Q,0,none⟩=some (.slice (some ⟨g,0,none⟩) X.length cap)) (first | exact e0 | exact ea _ | exact e4 | exact e5 | (go_keep;done)) (first
   | (refine bU sS [] HN.out T1.out (T2.out _ HN.out.below) T3.out (by omega) (by omega) (by rfl) _ _ (by rfl) (by rfl) (by rfl) ?_;intro v' w4 hA4 hv4;have e4:=HQ.out _ hA4.below;simp only [List.nil_append,aJ] at hA4;obtain⟨va,vc,rfl⟩:=aW (show Own _ _ _ _ _ _ from hA4.head);have HA4:=ae hA4;have HV4:=ae hv4;clear hA4 hv4)
   | (refine bU sS [] HA4.out U1.out (U2.out _ HA4.out.below) U3.out (by omega) (by omega) (by rfl) _ _ (by rfl) (by rfl) (by rfl) ?_;intro v' w5 hA5 hv5;have e5:=HQ.out _ hA5.below;have f5:=HC5.out _ hA5.below;have z5:=HF.out _ hA5.below (p*7+5);simp only [List.nil_append] at hA5;rw [HE2.out] at hA5;obtain⟨va2,vc2,rfl⟩:=aW (show Own _ _ _ _ _ _ from hA5.head);have HA5:=ae hA5;have HV5:=ae hv5;clear hA5 hv5))
 all_goals
  obtain⟨X6,hM6,hl6,ho6,-,hs6,hk6⟩:=zF HH.out HP.out HA5.out
  have hk1:dD _ _ _ _:=hk6 (bk w2.heap.size (recC 2 p c z1 z2 j [] [] false 0 0) 144) (by simp)
  have hk2:dD _ _ _ _:=hk6 (bk w.heap.size (recC 0 0 0 0 0 0 [] [] false 0 0) 144) (by simp)
  have q0:=hM6.at_.W.ptr
  have hcx:X6[c]? = some xc:=by rw [ho6 c (fun e=>hpc e.symm)];exact HCx.out
  have q4:=hM6.at_.W.cell hcx 4 (by omega)
  simp only [qZ,fQ,fP] at q4
  have qz:=hM6.at_.W.Ou (c*7+4)
  have HM6:=ae hM6
  have HCX:=ae hcx
  have HK1:=ae hk1
  have HK2:=ae hk2
  have HS6:=ae hs6
  have lc6:c < X6.length:=by rw [hl6];exact lc
  clear hM6 hcx hk1 hk2 hk6 hs6 ho6 e5 f5 z5
  go_upto_region 6 with fail
  obtain⟨X7,hM7,hl7,-,-,hs7⟩:=CP HM6.out.at_ HCX.out none
  have hg2:g < w2.heap.size:=by have:=hb2.size;omega
  have hk1:=HK1.out.setOther ⟨g,c*7+4,none⟩ (by show w2.heap.size≠g;omega) (.int .i64 (-1))
  have hk2:=HK2.out.setOther ⟨g,c*7+4,none⟩ (by show w.heap.size≠g;omega) (.int .i64 (-1))
  have hO7:=HM6.out.trans hM7
  have hW7:ms X7=uH (ms X) p j c:=by
   have h1:(ms X)[p]? = some xp.m:=by rw [vS,HP.out];rfl
   have h2:(ms X)[c]? = some xc.m:=by rw [vS,HCx.out];rfl
   rw [hs7,HS6.out,UH _ p j c _ _ h1 h2 hpc]
  have HO7:=ae hO7
  have HW7:=ae hW7
  clear q0 q4 qz HM6 HCX HK1 HK2 HS6 hM7 hO7 hW7 hs7
  rw [show pI none=-1 from rfl] at HO7
  generalize World.setCell (World.setCell w5 _ _) ⟨g,c*7+4,none⟩ (.int .i64 (-1))=w7 at *
  have b0:=hk1.cell 0
  have b1:=hk1.cell 1
  have b2:=hk1.cell 2
  have b3:=hk1.cell 3
  have b4:=hk1.cell 4
  have b5:=hk1.cell 5
  have b6:=hk1.cell 6
  have b7:=hk1.cell 7
  have b8:=hk1.cell 8
  have b9:=hk1.cell 9
  have b10:=hk1.cell 10
  simp only [recC,dA,fQ,fP] at b0 b1 b2 b3 b4 b5 b6 b7 b8 b9 b10
  obtain⟨⟨y0,y1,y2,y3,y4,y5,y6,y7,y8,y9,y10⟩,zf⟩:=DF hk2
  go_wp2_with fail
  (try simp only [Exit.inBlock,Exit.then])
  have k9:=I5 hk2 2 (p:Int) (c:Int) z1 z2 (j:Int) ⟨#[]⟩ ⟨#[]⟩ false 0 0
  refine nZ (v:=.agg (recC 2 p c z1 z2 j [] [] false 0 0).toArray) (Xd Tryz.results97 _ _ w.heap.size 144 _ (0,0) _ ?_ k9 Tryz.underlying144 rfl Qh) rfl ?_
  ·rfl
  have hch:=wL w7 w.heap.size (.int .i64 2) (.int .i64 (p:Int)) (.int .i64 (c:Int)) (.int .i64 z1) (.int .i64 z2) (.int .i64 (j:Int)) (.string ⟨#[]⟩) (.string ⟨#[]⟩) (.bool false) (.int .i64 0) (.int .i64 0)
  refine⟨X7,HW7.out,rfl,HO7.out.other hch ?_⟩
  intro k hk
  have hk':k=w.heap.size:=hk
  subst hk'
  refine⟨au _,fun hf=>?_⟩
  rcases hf with e | e | ⟨y,hy,e | e⟩
  ·exact absurd hQ (by omega)
  ·obtain⟨cur,hc⟩:=dF HO7.out.at_.W.row e;exact dw hk2 hc (by decide) rfl
  ·obtain⟨cur,hc⟩:=dF (HO7.out.at_.W.sF y hy) e;exact dw hk2 hc (by decide) rfl
  ·obtain⟨cur,hc⟩:=dF (HO7.out.at_.W.kid y hy) e;exact dw hk2 hc (by decide) rfl
structure Rc where
 kind:Int
 target:Int
 node:Int
 prev:Int
 next:Int
 index:Int
 name:List UInt8
 old:List UInt8
 had:Bool
 count:Int
 size:Int
def encR (r:Rc):List Value:=recC r.kind r.target r.node r.prev r.next r.index r.name r.old r.had r.count r.size
theorem JA (r:Rc):(encR r).length=11:=rfl
abbrev rl (v:Value) (l:List Rc):Ob:=sl 41 11 v l.length (rows encR l)
theorem NS (l:List Rc):(l.map encR).flatten=rows encR l:=by
 induction l with
 | nil=>rfl
 | cons x l ih=>simp only [fE,List.flatten_cons,rows,ih]
def yR (R:Nat)(S:Tr)(sv fv:Value)(k:Nat):Prop:=k=R∨sv.ownBlock=some k∨fv.ownBlock=some k∨∃i n,S.at i=some n∧n.attrs≠[]∧n.av.ownBlock=some k
theorem JK {B:Nat}{w:World}{v:Value}{l:List jR}(h:jA B w v l)(hl:l≠[]){k:Nat}(hk:v.ownBlock=some k):∃cur,w.heap[k]? = some (.cells cur 91 (0,0)):=by
 obtain⟨a,c,rfl,h'⟩:=h
 rcases h' with e | ⟨g,cur,rfl,_,hh,_⟩
 ·exact absurd e hl
 ·cases hk;exact⟨cur,hh⟩
theorem J7 {R:Nat}{S:Tr}{sv fv:Value}{w:World}(h:fZ 0 R S sv fv w){k:Nat}(hk:yR R S sv fv k):∃cur t,w.heap[k]? = some (.cells cur t (0,0))∧t≠41:=by
 rcases hk with rfl | hk | hk | ⟨i,n,hi,hne,hk⟩
 ·exact⟨_,_,h.blk,by decide⟩
 ·obtain⟨cur,hc⟩:=gJ h.slots hk
  exact⟨cur,_,hc,by decide⟩
 ·obtain⟨cur,hc⟩:=gJ h.free hk
  exact⟨cur,_,hc,by decide⟩
 ·obtain⟨cur,hc⟩:=JK (h.attrs i n (dN hi)) hne hk
  exact⟨cur,_,hc,by decide⟩
def Bg (R:Nat)(S:Tr)(sv fv:Value):Ob where
 P:=fun w=>fZ 0 R S sv fv w
 F:=yR R S sv fv
 here:=fun w h k hk=>by obtain⟨cur,t,hc,_⟩:=J7 h hk;exact gp hc
 loc:=fun w w' h k=>by
  have keep:∀{e sz n:Nat} {v:Value} {xs:List Value},w.ownsRow 0 e sz v n xs→(∀g,v.ownBlock=some g→yR R S sv fv g)→w'.ownsRow 0 e sz v n xs:=fun ho hf=>gW ho (fun g hg=>k g (hf g hg))
  refine⟨h.blk.kept (k R (.inl rfl)),keep h.slots (fun g hg=>.inr (.inl hg)),keep h.free (fun g hg=>.inr (.inr (.inl hg))),fun i n hi=>?_,h.base,h.few⟩
  obtain⟨a,c,e,h'⟩:=h.attrs i n hi
  by_cases hne:n.attrs=[]
  ·exact⟨a,c,e,.inl hne⟩
  ·rcases h' with e' | ⟨g,cur,e2,hB,hg,hc⟩
   ·exact absurd e' hne
   ·exact⟨a,c,e,.inr ⟨g,cur,e2,hB,(k g (.inr (.inr (.inr ⟨i,n,nX hi,hne,by rw [e,e2];rfl⟩)))).trans hg,hc⟩⟩
def Gv (f:Nat→Nd→Nd):Prop:=∀x n,(f x n).kind=n.kind∧(f x n).av=n.av∧(f x n).attrs=n.attrs∧(f x n).data=n.data
theorem yQ {R:Nat}{S S':Tr}{sv fv:Value}(f:Nat→Nd→Nd)(hf:Gv f)(hat:∀x,S'.at x=(S.at x).map (f x))(k:Nat)(h:yR R S' sv fv k):yR R S sv fv k:=by
 rcases h with h | h | h | ⟨i,n',hi,hne,hk⟩
 ·exact .inl h
 ·exact .inr (.inl h)
 ·exact .inr (.inr (.inl h))
 ·rw [hat] at hi
  obtain⟨n,hn,rfl⟩:=bJ.1 hi
  obtain⟨_,h2,h3,_⟩:=hf i n
  exact .inr (.inr (.inr ⟨i,n,hn,by rw [← h3];exact hne,by rw [← h2];exact hk⟩))
theorem uw (S:Tr)(l:List Nat)(p j c:Nat):Gv (jI S l p j c):=fun _ _=>⟨rfl,rfl,rfl,rfl⟩
theorem AU (S:Tr)(l:List Nat)(p j c:Nat):Gv (yt S l p j c):=fun _ _=>⟨rfl,rfl,rfl,rfl⟩
theorem Lk.put {S:Tr}{K d}(h:Lk S K d){i:Nat}{n n':Nd}(hi:S.at i=Option.some n)(h1:n'.parent=n.parent)(h2:n'.first=n.first)(h3:n'.last=n.last)(h4:n'.prev=n.prev)(h5:n'.next=n.next):Lk (S.put i n') K d:=by
 have hO':∀o,hO (S.put i n') o=hO S o:=fun o=>by cases o <;> rfl
 have hsome:∀x,((S.put i n').at x).isSome=(S.at x).isSome:=fun x=>by
  rw [dC hi]
  by_cases e:x=i
  ·subst e;rw [aC rfl,hi];rfl
  ·rw [ax e]
 have back:∀{x m},(S.put i n').at x=Option.some m→∃m0,S.at x=Option.some m0∧m.parent=m0.parent∧m.first=m0.first∧m.last=m0.last∧m.prev=m0.prev∧m.next=m0.next:=fun {x m} hx=>by
  rw [dC hi] at hx
  by_cases e:x=i
  ·subst e
   rw [aC rfl] at hx
   cases hx
   exact⟨n,hi,h1,h2,h3,h4,h5⟩
  ·rw [ax e] at hx
   exact⟨m,hx,rfl,rfl,rfl,rfl,rfl⟩
 refine⟨fun p k hk=>by rw [hsome,hsome];exact h.kin p k hk,?_,?_,?_,h.nodup,h.qc,fun x hx hp=>h.one x (by rw [hsome] at hx;exact hx) hp,h.low,by rw [iT];exact h.few⟩
 ·intro x m hx
  obtain⟨m0,e0,e1,e2,e3,e4,e5⟩:=back hx
  rw [hO',hO',e2,e3]
  exact h.node x m0 e0
 ·intro p j k m hk hm
  obtain⟨m0,e0,e1,e2,e3,e4,e5⟩:=back hm
  rw [hO',hO',Ut,e1,e4,e5]
  exact h.kid p j k m0 hk e0
 ·intro x m hx hp
  obtain⟨m0,e0,e1,e2,e3,e4,e5⟩:=back hx
  rw [e1,e4,e5]
  exact h.top x m0 e0 hp
def oU (M:List MN)(p j c:Nat):List MN:=M.mapIdx fun x m=>{ m with kids:=if x=p then m.kids.take j ++ c :: m.kids.drop j else m.kids,par:=if x=c then some p else m.par }
theorem Hl (M:List MN)(p j c:Nat)(mp mc:MN)(hp:M[p]? = some mp)(hc:M[c]? = some mc)(hpc:p≠c) :
  (M.set p { mp with kids:=mp.kids.take j ++ c :: mp.kids.drop j }).set c { mc with par:=some p }=oU M p j c:=by
 apply gu
 intro x
 unfold oU
 rw [dB,dH,dH,dI]
 have lp:=(ai.1 hp).1
 have lc:=(ai.1 hc).1
 by_cases e1:c=x
 ·subst e1
  have hcp:¬c=p:=fun e=>hpc e.symm
  rw [aC rfl,aC lc,hc]
  simp [hcp]
 ·rw [ax e1]
  by_cases e2:p=x
  ·subst e2
   rw [aC rfl,aC lp,hp]
   simp [hpc]
  ·rw [ax e2]
   cases M[x]? with
   | none=>rfl
   | some m =>
    have h1:¬x=c:=fun e=>e1 e.symm
    have h2:¬x=p:=fun e=>e2 e.symm
    simp [h1,h2]
theorem uq {M:List MN}{p j c x:Nat}{m:MN}(h:lv M x=some m):lv (uH M p j c) x=some { m with kids:=if x=p then m.kids.eraseIdx j else m.kids,par:=if x=c then none else m.par }:=by
 obtain⟨h1,h2⟩:=lV h
 refine DX ?_ h2
 unfold uH
 rw [dB,h1]
 rfl
def Ti (p c:Int)(a b:Int)(j:Nat):Rc:=⟨1,p,c,a,b,j,[],[],false,0,0⟩
def Ub (p c:Int)(a b:Int)(j:Nat):Rc:=⟨2,p,c,a,b,j,[],[],false,0,0⟩
inductive JX (M:List MN) (p c:Nat) (o:Option Nat) (mc:MN):List MN→List Rc→Prop
 | det (mp:MN) (j:Nat) (h1:mc.par=none) (h2:lv M p=some mp) (h3:(o=none∧j=mp.kids.length)∨(∃b,o=some b∧b≠c∧mp.kids[j]? = some b)):JX M p c o mc (oU M p j c) [Ti p c (pI (pv mp.kids j)) (pI mp.kids[j]?) j]
 | sF (q i j:Nat) (mq mp:MN) (o':Option Nat) (h1:mc.par=some q) (h2:lv M q=some mq) (h3:mq.kids[i]? = some c) (h4:lv (uH M q i c) p=some mp) (h5:o'=if o=some c then mq.kids[i+1]? else o)
   (h6:(o'=none∧j=mp.kids.length)∨(∃b,o'=some b∧b≠c∧mp.kids[j]? = some b)) :
   JX M p c o mc (oU (uH M q i c) p j c) [Ub q c (pI (pv mq.kids i)) (pI mq.kids[i+1]?) i,Ti p c (pI (pv mp.kids j)) (pI mp.kids[j]?) j]
structure zV (c:Nat) (n:Nd):Prop where
 kd:n.kind=1∨n.kind=2∨n.kind=3∨n.kind=4
 el:n.kind=2→n.data=[]∧uB n.name=true
 tx:n.kind=3∨n.kind=4→n.name=[]∧n.attrs=[]∧Lib.validD n.data=true
 dc:n.kind=1→n.name=[]∧n.data=[]∧n.attrs=[]
 at_:∀a∈n.attrs,headB a.1=true∧Lib.validD a.2=true∧a.1.length≤200∧a.2.length≤200
 nd:(n.attrs.map (·.1)).Nodup
 al:n.attrs.length≤64
 dl:n.data.length≤200*(c+1)
 nl:n.name.length≤200
def BJ (S:Tr)(l:List Nat)(np:Nd):Prop :=
 l=[]∨np.kind=2∨(np.kind=1∧(∀k n,k∈l→S.at k=some n→n.kind=2∨n.kind=4) ∧
  ∀k k' n n',k∈l→k'∈l→S.at k=some n→S.at k'=some n'→n.kind=2→n'.kind=2→k=k')
structure iP (c:Nat) (S:Tr) (K:Nat→List Nat) (d:Nat→Nat):Prop where
 lk:Lk S K d
 nd:∀x n,S.at x=some n→zV c n
 J4:∀p np,S.at p=some np→BJ S (K p) np
 fr:∀i∈S.free,S.slots[i]? = some none
 rZ:S.free.Nodup
 root:S.root=S.hd 0
 doc:∃n,S.at 0=some n∧n.kind=1
 other:∀x n,S.at x=some n→x≠0→n.kind≠1
 vN:∀p,0∉K p
structure Tw (ex:Prop) (E:Nat→Prop) (c:Nat) (S:Tr) (K:Nat→List Nat) (M:List MN) (σ : Nat→Nat):Prop where
 node:∀i m,lv M i=some m→∃n,S.at (σ i)=some n∧n.kind=m.kind∧n.name=m.name∧n.data=m.data∧(ex→n.attrs=m.attrs)
 kids:∀i m,lv M i=some m→K (σ i)=m.kids.map σ
 inj:∀i j mi mj,lv M i=some mi→lv M j=some mj→σ i=σ j→i=j
 zero:σ 0=0∧∃m,lv M 0=some m
 par:∀i m p,lv M i=some m→m.par=some p→∃mp,lv M p=some mp∧i∈mp.kids
 kid:∀p mp k,lv M p=some mp→k∈mp.kids→∃mk,lv M k=some mk∧mk.par=some p
 top:∀i m,lv M i=some m→m.par=none→∀q,σ i∉K q
 cover:∀x,(S.at x).isSome=true→E x∨∃i m,lv M i=some m∧σ i=x
 off:∀i m,lv M i=some m→¬E (σ i)
 ma:∀i m,lv M i=some m→m.attrs.length≤c+2
 few:M.length≤10000
section
variable {ex : Prop} {E : Nat → Prop} {c : Nat} {S : Tr} {K : Nat → List Nat} {d : Nat → Nat} {M : List MN} {σ : Nat → Nat}
theorem FY {p k:Nat}{np nc:Nd}(h:nU S K d p k np nc=true):nc.kind≠1∧(np.kind=2∨(np.kind=1∧(nc.kind=4∨(nc.kind=2∧∀x n,x∈K p→x≠k→S.at x=some n→n.kind≠2)))):=by
 unfold nU at h
 split at h
 ·cases h
 ·rename_i h1
  have h1':nc.kind≠1:=fun e=>h1 (by simp [e])
  refine⟨h1',?_⟩
  split at h
  ·rename_i h2
   simp at h2
   rcases h2 with h2 | h2
   ·exact .inl h2
   ·exact .inr ⟨h2.1,.inl h2.2⟩
  ·split at h
   ·cases h
   ·rename_i h3
    simp at h3
    refine .inr ⟨h3.1,.inr ⟨h3.2,fun x n hx hxk hn e=>?_⟩⟩
    rw [Bool.not_eq_true',XG] at h
    refine h x hx ?_
    unfold oV
    simp [hn,e,hxk]
theorem BJ.sub {S':Tr}{l l':List Nat}{np np':Nd}(h:BJ S l np)(hk:np'.kind=np.kind)(hs:∀k,k∈l'→k∈l)(hat:∀k n',S'.at k=some n'→∃n,S.at k=some n∧n.kind=n'.kind):BJ S' l' np':=by
 rcases h with h | h | ⟨h1,h2,h3⟩
 ·subst h
  refine .inl (XN.2 fun k hk=>by cases hs k hk)
 ·exact .inr (.inl (hk.trans h))
 ·refine .inr (.inr ⟨hk.trans h1,fun k n' hk' hn'=>?_,fun k k' n n' h4 h5 h6 h7 h8 h9=>?_⟩)
  ·obtain⟨n,h4,h5⟩:=hat k n' hn'
   rw [← h5];exact h2 k n (hs k hk') h4
  ·obtain⟨m,h10,h11⟩:=hat k n h6
   obtain⟨m',h12,h13⟩:=hat k' n' h7
   exact h3 k k' m m' (hs k h4) (hs k' h5) h10 h12 (h11.trans h8) (h13.trans h9)
theorem BJ.add {S':Tr}{l':List Nat}{p x:Nat}{np np' nc:Nd}(h:BJ S (K p) np)(hm:nU S K d p x np nc=true)(hc:S.at x=some nc)(hk:np'.kind=np.kind)(hs:∀k,k∈l'→k=x∨k∈K p)(hat:∀k n',S'.at k=some n'→∃n,S.at k=some n∧n.kind=n'.kind):BJ S' l' np':=by
 obtain⟨h1,h2 | ⟨h2,h3⟩⟩:=FY hm
 ·exact .inr (.inl (hk.trans h2))
 ·have hx:∀n',S'.at x=some n'→n'.kind=nc.kind:=fun n' e=>by
   obtain⟨n,h4,h5⟩:=hat x n' e
   rw [hc] at h4;cases h4;exact h5.symm
  have hold:∀k n,k∈K p→S.at k=some n→n.kind=2∨n.kind=4:=fun k n hk1 hn=>by
   rcases h with h | h | ⟨_,h4,_⟩
   ·rw [h] at hk1;cases hk1
   ·omega
   ·exact h4 k n hk1 hn
  have huq:∀k k' n n',k∈K p→k'∈K p→S.at k=some n→S.at k'=some n'→n.kind=2→n'.kind=2→k=k':=fun k k' n n' hk1 hk2=>by
   rcases h with h | h | ⟨_,_,h4⟩
   ·rw [h] at hk1;cases hk1
   ·omega
   ·exact h4 k k' n n' hk1 hk2
  have hno:nc.kind=2→∀k n,k∈K p→k≠x→S.at k=some n→n.kind≠2:=fun e k n hk1 hne hn=>by
   rcases h3 with h3 | ⟨_,h3⟩
   ·omega
   ·exact h3 k n hk1 hne hn
  refine .inr (.inr ⟨hk.trans h2,fun k n' hk' hn'=>?_,fun k k' n n' h4 h5 h6 h7 h8 h9=>?_⟩)
  ·by_cases e:k=x
   ·subst e;rw [hx n' hn'];omega
   ·obtain⟨n,h4,h5⟩:=hat k n' hn'
    rw [← h5]
    exact hold k n ((hs k hk').resolve_left e) h4
  ·obtain⟨m,h10,h11⟩:=hat k n h6
   obtain⟨m',h12,h13⟩:=hat k' n' h7
   by_cases e:k=x
   ·by_cases e':k'=x
    ·rw [e,e']
    ·subst e
     have:=hno ((hx n h6).symm.trans h8) k' m' ((hs k' h5).resolve_left e') e' h12
     omega
   ·by_cases e':k'=x
    ·subst e'
     have:=hno ((hx n' h7).symm.trans h9) k m ((hs k h4).resolve_left e) e h10
     omega
    ·exact huq k k' m m' ((hs k h4).resolve_left e) ((hs k' h5).resolve_left e') h10 h12 (h11.trans h8) (h13.trans h9)
theorem kH {i:Nat}(h:∃m,lv M i=some m):i < M.length:=by
 obtain⟨m,h⟩:=h
 exact(ai.1 (lV h).1).1
theorem Tw.mw (W:Tw ex E c S K M σ)(L:Lk S K d):MW M (fun i=>d (σ i)):=by
 refine⟨fun i m p hi hp=>?_,fun i m hi hp=>?_,W.kid,fun p mp hp=>?_,fun i m hi=>L.low _,by have:=W.few;omega⟩
 ·obtain⟨mp,h1,h2⟩:=W.par i m p hi hp
  refine⟨mp,h1,h2,L.qc _ _ ?_⟩
  rw [W.kids p mp h1]
  exact bC.2 ⟨i,h2,rfl⟩
 ·obtain⟨n,hn,_⟩:=W.node i m hi
  exact L.one _ (by rw [hn];rfl) (W.top i m hi hp)
 ·have h1:=L.nodup (σ p)
  rw [W.kids p mp hp] at h1
  rw [XY] at h1 ⊢
  rw [XF] at h1
  exact h1.imp (fun h e=>h (by rw [e]))
theorem Tw.pr (W:Tw ex E c S K M σ)(L:Lk S K d){i:Nat}{m:MN}(hi:lv M i=some m):pr S (σ i)=m.par.map σ:=by
 obtain⟨n,hn,_⟩:=W.node i m hi
 cases hp:m.par with
 | none =>
  obtain⟨h1,_⟩:=L.top _ n hn (W.top i m hi hp)
  exact Ja L hn (o:=none) h1 (fun k hk=>by cases hk)
 | some p =>
  obtain⟨mp,h1,h2⟩:=W.par i m p hi hp
  have h3:σ i∈K (σ p):=by rw [W.kids p mp h1];exact bC.2 ⟨i,h2,rfl⟩
  obtain⟨j,hj⟩:=aI.1 h3
  have h4:=(L.kid _ j _ n hj hn).1
  exact Ja L hn (o:=some (σ p)) h4 (fun k hk=>by cases hk;exact(L.kin _ _ h3).1)
theorem Tw.parent (W:Tw ex E c S K M σ)(L:Lk S K d){i:Nat}{m:MN}(hi:lv M i=some m){n:Nd}(hn:S.at (σ i)=some n):n.parent=hO S (m.par.map σ):=by
 cases hp:m.par with
 | none=>exact(L.top _ n hn (W.top i m hi hp)).1
 | some p =>
  obtain⟨mp,h1,h2⟩:=W.par i m p hi hp
  have h3:σ i∈K (σ p):=by rw [W.kids p mp h1];exact bC.2 ⟨i,h2,rfl⟩
  obtain⟨j,hj⟩:=aI.1 h3
  exact(L.kid _ j _ n hj hn).1
theorem Tw.cont (W:Tw ex E c S K M σ)(L:Lk S K d){a:Nat}{ma:MN}(ha:lv M a=some ma):∀(f b:Nat) (mb:MN),lv M b=some mb→mX S (σ a) f (some (σ b))=oQ M a f (some b)
 | 0,_,_,_=>rfl
 | f+1,b,mb,hb=>by
  show(σ a == σ b || mX S (σ a) f (Go.Proofs.YtfelmdkeaacfeaaGreatDoor.W.pr S (σ b)))=(a == b || oQ M a f (PU M b))
  rw [W.pr L hb,MS hb]
  have e1:(σ a == σ b)=(a == b):=by
   by_cases e:a=b
   ·subst e;simp
   ·have:σ a≠σ b:=fun h=>e (W.inj a b ma mb ha hb h)
    rw [eY.2 this,eY.2 e]
  rw [e1]
  cases hp:mb.par with
  | none=>cases f <;> rfl
  | some p =>
   obtain⟨mp,h1,h2⟩:=W.par b mb p hb hp
   rw [← W.cont L ha f p mp h1];rfl
theorem ES {α : Type}(f g:α→Nat)(h:List α)(hfg:∀x∈h,f x=g x):∀m:Nat,h.foldl (fun m k=>max m (f k)) m=h.foldl (fun m k=>max m (g k)) m:=by
 induction h with
 | nil=>intro m;rfl
 | cons x l ih =>
  intro m
  simp only [List.foldl_cons]
  rw [hfg x (by simp)]
  exact ih (fun y hy=>hfg y (by simp [hy])) _
theorem Tw.hgt (W:Tw ex E c S K M σ):∀(f i:Nat) (m:MN),lv M i=some m→Go.Proofs.YtfelmdkeaacfeaaGreatDoor.W.hgt K f (σ i)=Go.Proofs.YtfelmdkeaacfeaaGreatDoor.W.hgt (kM M) f i
 | 0,_,_,_=>rfl
 | f+1,i,m,hi=>by
  show(K (σ i)).foldl _ 0+1=(kM M i).foldl _ 0+1
  rw [W.kids i m hi,qQ hi,List.foldl_map]
  congr 1
  refine ES (fun k=>Go.Proofs.YtfelmdkeaacfeaaGreatDoor.W.hgt K f (σ k)) (fun k=>Go.Proofs.YtfelmdkeaacfeaaGreatDoor.W.hgt (kM M) f k) m.kids (fun k hk=>?_) 0
  obtain⟨mk,h1,_⟩:=W.kid i m k hi hk
  exact W.hgt f k mk h1
theorem Tw.Tm (W:Tw ex E c S K M σ)(T:iP c S K d){i:Nat}{m:MN}(hi:lv M i=some m):m.kind=1↔i=0:=by
 obtain⟨n,hn,hk,_⟩:=W.node i m hi
 obtain⟨z1,m0,z2⟩:=W.zero
 constructor
 ·intro e
  have:σ i=0:=Decidable.byContradiction fun h=>T.other _ n hn h (hk.trans e)
  exact W.inj i 0 m m0 hi z2 (this.trans z1.symm)
 ·rintro rfl
  rw [z1] at hn
  obtain⟨n0,h1,h2⟩:=T.doc
  rw [h1] at hn;cases hn
  rw [← hk];exact h2
theorem Tw.kinds (W:Tw ex E c S K M σ)(T:iP c S K d){i:Nat}{m:MN}(hi:lv M i=some m):m.kind=1∨m.kind=2∨m.kind=3∨m.kind=4:=by
 obtain⟨n,hn,hk,_⟩:=W.node i m hi
 rw [← hk];exact(T.nd _ n hn).kd
theorem Tw.elem (W:Tw ex E c S K M σ){x k:Nat}{mx mk:MN}(hx:lv M x=some mx)(hk:lv M k=some mk):oV S (σ x) (σ k)=vW M x k:=by
 obtain⟨n,hn,h1,_⟩:=W.node k mk hk
 unfold oV vW
 rw [hn,hk]
 simp only [h1]
 congr 1
 by_cases e:k=x
 ·subst e;simp
 ·have:σ k≠σ x:=fun h=>e (W.inj k x mk mx hk hx h)
  unfold bne
  rw [eY.2 this,eY.2 e]
theorem Eu {α : Type}{f g:α→Bool}:∀(l:List α),(∀x∈l,f x=g x)→l.any f=l.any g
 | [],_=>rfl
 | x :: l,h=>by rw [List.any_cons,List.any_cons,h x (by simp),Eu l (fun y hy=>h y (by simp [hy]))]
theorem Tw.may (W:Tw ex E c S K M σ)(T:iP c S K d){p x:Nat}{mp mx:MN}(hp:lv M p=some mp)(hx:lv M x=some mx){np nx:Nd}(hnp:S.at (σ p)=some np)(hnx:S.at (σ x)=some nx) :
  nU S K d (σ p) (σ x) np nx=zt M (fun i=>d (σ i)) p x mp mx:=by
 obtain⟨n1,e1,k1,_⟩:=W.node p mp hp
 obtain⟨n2,e2,k2,_⟩:=W.node x mx hx
 rw [hnp] at e1;cases e1
 rw [hnx] at e2;cases e2
 have hc:=W.cont T.lk hx (d (σ p)) p mp hp
 have hx1:=W.Tm T hx
 have hp1:=W.Tm T hp
 have hany:(K (σ p)).any (oV S (σ x))=mp.kids.any (vW M x):=by
  rw [W.kids p mp hp,List.any_map]
  refine Eu _ (fun k hk=>?_)
  obtain⟨mk,h1,_⟩:=W.kid p mp k hp hk
  exact W.elem hx h1
 unfold nU zt
 rw [k1,k2,hc,hany]
 cases hcc:oQ M x (d (σ p)) (some p)
 ·by_cases hx0:x=0
  ·have:=hx1.2 hx0
   simp [hx0,this]
  ·have hxk:mx.kind≠1:=fun e=>hx0 (hx1.1 e)
   have q1:(mx.kind == 1)=false:=by simpa using hxk
   rw [q1]
   simp only [WW,iV,iJ,hx0,or_self]
   by_cases h2:mp.kind=2
   ·simp [h2]
   ·by_cases h1:mp.kind=1
    ·have hp0:=hp1.1 h1
     rcases W.kinds T hx with h | h | h | h
     ·omega
     ·simp [h1,h,hp0]
     ·simp [h1,h,hp0]
     ·simp [h1,h,hp0]
    ·have hp0:p≠0:=fun e=>h1 (hp1.2 e)
     simp [h1,h2,hp0]
 ·simp
end
end Go.Proofs.YtfelmdkeaacfeaaGreatDoor.W
end
