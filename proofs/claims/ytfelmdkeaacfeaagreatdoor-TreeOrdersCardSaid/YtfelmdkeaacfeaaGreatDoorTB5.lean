/- Texts joined: RegM RegB Link. -/
import Derived.Test.YtfelmdkeaacfeaaGreatDoorTB1
import Derived.Test.YtfelmdkeaacfeaaGreatDoorTB4
import Derived.Test.YtfelmdkeaacfeaaGreatDoorTB3
import Derived.Deep.CutBlock
import Derived.Deep.RegionHeld3
import Derived.Lib.SmallJoins
set_option maxRecDepth 100000
set_option maxHeartbeats 40000000
set_option linter.unusedVariables false
set_option linter.unusedSimpArgs false
section
namespace Go.Proofs.YtfelmdkeaacfeaaGreatDoor.W
open Go
def kindOf (o:Oper):Nat:=if gG o then 1 else match o.op with | .alloc _=>2 | .box _ _=>2 | .buildSlice _ _ _=>2 | _=>0
structure Pl where
 S:World→Prop
 C:Nat→List Ob→World→Prop
 val:Nat→Value
 made:Nat→Nat→Value
 cs:Nat→List Value
 ty:Nat→TypeId
section
variable (P : Program) (ops : Array Oper) (L : Pl)
def rE (o:Oper)(a:Act)(mk:Nat→Value)(cs:List Value)(t:TypeId):Prop:=∀w,(execOp a.eval o).run P w=.ok (.value (mk w.heap.size)) (w.alloc (.cells cs.toArray t))
def qg (o:Oper)(a:Act)(k:Nat):Prop :=
 ∀X w,L.C k X w→∃f args,(execOp a.eval o).run P w=.ok (.enter f args) w∧Calls P f args w (fun e w'=>e=.returned (L.val k)∧L.C (k+1) X w')
def sV (o:Oper)(i k:Nat)(a:Act):Prop:=Region.wanted o (yielded ops a.tmps)=true →
 (kindOf o=0→∃v,jo P L.S o a v)∧(kindOf o=1→qg P L o a k)∧(kindOf o=2→rE P o a (L.made i) (L.cs i) (L.ty i))
def nH (o:Oper)(i k:Nat)(a:Act)(k':Nat)(D:List Ob)(v:Value):Prop :=
 (Region.wanted o (yielded ops a.tmps)=false∧k'=k∧D=[]∧v=undef) ∨
 (Region.wanted o (yielded ops a.tmps)=true∧((kindOf o=0∧jo P L.S o a v∧k'=k∧D=[])∨(kindOf o=1∧v=L.val k∧k'=k+1∧D=[]) ∨
  (kindOf o=2∧k'=k∧∃g,v=L.made i g∧D=[bk g (L.cs i) (L.ty i)])))
def rO (o:Oper)(i k:Nat)(X:List Ob)(a:Act)(K:Nat→List Ob→Act→Prop):Prop :=
 sV P ops L o i k a∧∀k' D v,nH P ops L o i k a k' D v→K k' (D ++ X) (a.put o.dst v)
def qi (Q:Nat→List Ob→Act→Prop):Nat→Nat→List Ob→List Oper→Act→Prop
 | _,k,X,[],a=>Q k X a
 | i,k,X,o :: rest,a=>rO P ops L o i k X a (fun k' X' a'=>qi Q (i+1) k' X' rest a')
def oO (md:Region.Mode)(m:Nat)(Q:Array Bool→Nat→List Ob→Act→Prop):Nat→Array Bool→Nat→List Ob→Act→Prop
 | 0,listed,k,X,a=>(∀j∈Region.ready md ops listed,m≤j)∧Q listed k X a
 | n+1,listed,k,X,a=>Region.ready md ops listed≠[]∧∀i∈Region.ready md ops listed,i < m∧∀o,ops[i]? = some o→rO P ops L o i k X a (fun k' X' a'=>oO md m Q n (listed.setIfInBounds i true) k' X' a')
end
section
variable {P : Program} {ops : Array Oper} {L : Pl} {md : Region.Mode} {m : Nat} {Q : Array Bool → Nat → List Ob → Act → Prop}
theorem nV {o:Oper}(h:gG o=false):kindOf o≠1:=by
 unfold kindOf
 rw [h]
 simp only [iV,iJ]
 split <;> simp
theorem sV.same {o:Oper}{i k:Nat}{a a':Act}(h:sV P ops L o i k a)(he:execOp a'.eval o=execOp a.eval o)(hw:Region.wanted o (yielded ops a'.tmps)=Region.wanted o (yielded ops a.tmps)):sV P ops L o i k a':=by
 unfold sV jo qg rE at *
 rw [he,hw]
 exact h
theorem nH.same {o:Oper}{i k k':Nat}{D:List Ob}{v:Value}{a a':Act}(h:nH P ops L o i k a k' D v)(he:execOp a'.eval o=execOp a.eval o)(hw:Region.wanted o (yielded ops a'.tmps)=Region.wanted o (yielded ops a.tmps)):nH P ops L o i k a' k' D v:=by
 unfold nH jo at *
 rw [he,hw]
 exact h
theorem sV.stage {o:Oper}{i k:Nat}{a:Act}(hc:gG o=false)(h:sV P ops L o i k a)(j:Nat):sV P ops L o i j a:=fun hw =>
 ⟨(h hw).1,fun e=>absurd e (nV hc),(h hw).2.2⟩
theorem nH.stage {o:Oper}{i k k':Nat}{D:List Ob}{v:Value}{a:Act}(hc:gG o=false)(h:nH P ops L o i k a k' D v)(j:Nat):k'=k∧nH P ops L o i j a j D v:=by
 rcases h with ⟨h1,h2,h3⟩ | ⟨h1,⟨h2,h3,h4,h5⟩ | ⟨h2,_⟩ | ⟨h2,h3,h4⟩⟩
 ·exact⟨h2,.inl ⟨h1,rfl,h3⟩⟩
 ·exact⟨h4,.inr ⟨h1,.inl ⟨h2,h3,rfl,h5⟩⟩⟩
 ·exact absurd h2 (nV hc)
 ·exact⟨h3,.inr ⟨h1,.inr (.inr ⟨h2,rfl,h4⟩)⟩⟩
theorem lh (o:Oper):kindOf o=0∨kindOf o=1∨kindOf o=2:=by
 unfold kindOf
 split
 ·exact .inr (.inl rfl)
 ·split <;> simp
theorem sV.out {o:Oper}{i k:Nat}{a:Act}(h:sV P ops L o i k a):∃k' D v,nH P ops L o i k a k' D v:=by
 cases hw:Region.wanted o (yielded ops a.tmps) with
 | false=>exact⟨k,[],undef,.inl ⟨hw,rfl,rfl,rfl⟩⟩
 | true =>
  rcases lh o with e | e | e
  ·obtain⟨v,hv⟩:=(h hw).1 e
   exact⟨k,[],v,.inr ⟨hw,.inl ⟨e,hv,rfl,rfl⟩⟩⟩
  ·exact⟨k+1,[],L.val k,.inr ⟨hw,.inr (.inl ⟨e,rfl,rfl,rfl⟩)⟩⟩
  ·exact⟨k,_,_,.inr ⟨hw,.inr (.inr ⟨e,rfl,0,rfl,rfl⟩)⟩⟩
theorem nY (hP:∀listed k X Y a,X.Perm Y→Q listed k X a→Q listed k Y a):∀(n:Nat) (listed:Array Bool) (k:Nat) (X Y:List Ob) (a:Act),X.Perm Y→oO P ops L md m Q n listed k X a→oO P ops L md m Q n listed k Y a:=by
 intro n
 induction n with
 | zero=>intro listed k X Y a hp h;exact⟨h.1,hP _ _ _ _ _ hp h.2⟩
 | succ n ih =>
  intro listed k X Y a hp h
  refine⟨h.1,fun i hi=>⟨(h.2 i hi).1,fun o ho=>?_⟩⟩
  obtain⟨h1,h2⟩:=(h.2 i hi).2 o ho
  exact⟨h1,fun k' D v hO=>ih _ _ _ _ _ (Xg D hp) (h2 k' D v hO)⟩
theorem ng {t:Nat}{Q':Exit→Act→World→Prop}(hS:∀k X w,L.C k X w→L.S w)(hM:∀k X w cs ty,L.C k X w→L.C k (bk w.heap.size cs ty :: X) (w.alloc (.cells cs.toArray ty)))
  (hQ:∀listed k X a w,L.C k X w→Q listed k X a→wpAny P md ops Q' t listed a w) :
  ∀(n:Nat) (listed:Array Bool) (k:Nat) (X:List Ob) (a:Act) (w:World),L.C k X w→oO P ops L md m Q n listed k X a→wpAny P md ops Q' (n+t) listed a w:=by
 intro n
 induction n with
 | zero=>intro listed k X a w hw h;rw [aJ];exact hQ _ _ _ _ _ hw h.2
 | succ n ih =>
  intro listed k X a w hw h
  rw [show n+1+t=(n+t)+1 by omega]
  refine⟨fun e=>absurd e h.1,fun i hi=>?_⟩
  obtain⟨_,o,ho,_⟩:=jD.1 hi
  obtain⟨hok,hn⟩:=(h.2 i hi).2 o ho
  unfold wpOp
  simp only [ho]
  cases hwt:Region.wanted o (yielded ops a.tmps) with
  | false =>
   simp only [iV,iJ]
   exact ih _ _ _ _ _ hw (hn k [] undef (.inl ⟨hwt,rfl,rfl,rfl⟩))
  | true =>
   simp only [oW]
   left
   obtain⟨o1,o2,o3⟩:=hok hwt
   unfold Oper.wp
   rcases lh o with e | e | e
   ·obtain⟨v,hv⟩:=o1 e
    have hk:=hn k [] v (.inr ⟨hwt,.inl ⟨e,hv,rfl,rfl⟩⟩)
    rcases hv w (hS _ _ _ hw) with r | ⟨r,rfl⟩
    ·rw [r];exact ih _ _ _ _ _ hw hk
    ·rw [r];exact ih _ _ _ _ _ hw hk
   ·obtain⟨f,args,r,hc⟩:=o2 e X w hw
    have hk:=hn (k+1) [] (L.val k) (.inr ⟨hwt,.inr (.inl ⟨e,rfl,rfl,rfl⟩)⟩)
    rw [r]
    refine Yi hc ?_
    rintro e w' ⟨rfl,hw'⟩
    exact ih _ _ _ _ _ hw' hk
   ·have r:=o3 e w
    have hk:=hn k [bk w.heap.size (L.cs i) (L.ty i)] (L.made i w.heap.size) (.inr ⟨hwt,.inr (.inr ⟨e,rfl,w.heap.size,rfl,rfl⟩)⟩)
    rw [r]
    exact ih _ _ _ _ _ (hM _ _ _ _ _ hw) hk
theorem qX (hP:∀listed k X Y a,X.Perm Y→Q listed k X a→Q listed k Y a){i:Nat}{oi:Oper}(hi:ops[i]? = some oi)(him:i < m)(hsel:∀(j:Nat) (o:Oper) cs b,ops[j]? = some o→o.op≠.select cs b) :
  ∀(n:Nat) (listed:Array Bool) (k:Nat) (X:List Ob) (a:Act),
   (∀j oj,ops[j]? = some oj→j≠i→listed.getD j true=false→(∀e∈oj.after,Region.binds md e=true→e.on≠i)→oi.apart ops oj=true) →
   (∃B:Nat→Bool,(∀j,B j=true→listed.getD j true=false∧∃oj,ops[j]? = some oj∧∃e∈oj.after,Region.binds md e=true∧(e.on=i∨B e.on=true)) ∧
    (gG oi=true→∀j oj,ops[j]? = some oj→gG oj=true→j≠i→listed.getD j true=false→B j=true)∧(∀j oj,ops[j]? = some oj→m≤j→B j=true)) →
   i∈Region.ready md ops listed→rO P ops L oi i k X a (fun k' X' a'=>oO P ops L md m Q n (listed.setIfInBounds i true) k' X' a')→oO P ops L md m Q (n+1) listed k X a:=by
 have notB:∀(listed:Array Bool) (B:Nat→Bool),(∀j,B j=true→listed.getD j true=false∧∃oj,ops[j]? = some oj∧∃e∈oj.after,Region.binds md e=true∧(e.on=i∨B e.on=true)) →
   i∈Region.ready md ops listed→∀j,j∈Region.ready md ops listed→(B j=false∧∀oj,ops[j]? = some oj→∀e∈oj.after,Region.binds md e=true→e.on≠i):=by
  intro listed B b1 hr j hj
  obtain⟨hjun,oj,hoj,hall⟩:=jD.1 hj
  have hiun:=(jD.1 hr).1
  have hnot:∀e∈oj.after,Region.binds md e=true→e.on≠i:=fun e he hb heq=>by
   have h1:=hall e he hb
   rw [heq] at h1
   rcases jq i listed.size with h' | h'
   ·simp [h'] at hiun h1;rw [hiun] at h1;cases h1
   ·simp [eU h'] at h1
  refine⟨?_,fun oj' hoj'=>?_⟩
  ·by_cases hb:B j=true
   ·obtain⟨_,o',ho',e,he,hbe,hon⟩:=b1 j hb
    obtain rfl:oj=o':=by rw [hoj] at ho';exact cO ho'
    have h1:=hall e he hbe
    rcases hon with hon | hon
    ·exact absurd hon (hnot e he hbe)
    ·have h0:=(b1 _ hon).1
     rcases jq e.on listed.size with h' | h'
     ·simp [h'] at h0 h1;rw [h0] at h1;cases h1
     ·simp [eU h'] at h1
   ·simpa using hb
  ·obtain rfl:oj=oj':=by rw [hoj] at hoj';exact cO hoj'
   exact hnot
 intro n
 induction n with
 | zero =>
  intro listed k X a _ ⟨B,b1,_,b3⟩ hr ⟨hok,H⟩
  refine⟨fun h=>(by rw [h] at hr;cases hr),fun j hj=>?_⟩
  by_cases hji:j=i
  ·subst hji
   exact⟨him,fun o ho=>(by obtain rfl:oi=o:=(by rw [hi] at ho;exact cO ho);exact⟨hok,H⟩)⟩
  ·obtain⟨k',D,v,hO⟩:=hok.out
   have h1:=(H k' D v hO).1 j (oN hj hji)
   obtain⟨_,oj,hoj,_⟩:=jD.1 hj
   have h2:=b3 j oj hoj h1
   rw [(notB listed B b1 hr j hj).1] at h2
   cases h2
 | succ n ih =>
  intro listed k X a hfree ⟨B,b1,b2,b3⟩ hr ⟨hok,H⟩
  refine⟨fun h=>(by rw [h] at hr;cases hr),fun j hj=>?_⟩
  by_cases hji:j=i
  ·subst hji
   exact⟨him,fun o ho=>(by obtain rfl:oi=o:=(by rw [hi] at ho;exact cO ho);exact⟨hok,H⟩)⟩
  ·obtain⟨hBj,hnot'⟩:=notB listed B b1 hr j hj
   have hjm:j < m:=by
    rcases jq j m with h' | h'
    ·exact h'
    ·obtain⟨_,oj,hoj,_⟩:=jD.1 hj
     have:=b3 j oj hoj h'
     rw [hBj] at this
     cases this
   refine⟨hjm,fun oj hoj=>?_⟩
   have hnot:=hnot' oj hoj
   have hjun:=(jD.1 hj).1
   have hap:=hfree j oj hoj hji hjun hnot
   obtain⟨p1,p2,p3⟩:=Xu hap
   have hsi:=fun cs b=>hsel i oi cs b hi
   have hsj:=fun cs b=>hsel j oj cs b hoj
   have hnc:gG oi=true→gG oj=false:=fun hc=>by
    by_cases hcj:gG oj=true
    ·have:=b2 hc j oj hoj hcj hji hjun
     rw [hBj] at this
     cases this
    ·simpa using hcj
   have hfree':∀m om,ops[m]? = some om→m≠i→(listed.setIfInBounds j true).getD m true=false →
     (∀e∈om.after,Region.binds md e=true→e.on≠i)→oi.apart ops om=true:=fun m om hm hmi hun hno=>by
    refine hfree m om hm hmi ?_ hno
    by_cases hjm:j=m
    ·subst hjm;exact hjun
    ·rw [iY true hjm] at hun;exact hun
   have hr':=oN hr (WV hji)
   -- what is known of j behind any outcome of i
   have hj2:∀k' D v,nH P ops L oi i k a k' D v→rO P ops L oj j k' (D ++ X) (a.put oi.dst v) (fun k'' X'' a''=>oO P ops L md m Q n ((listed.setIfInBounds i true).setIfInBounds j true) k'' X'' a'') :=
    fun k' D v hO=>((H k' D v hO).2 j (oN hj hji)).2 oj hoj
   have hsame:∀v,execOp a.eval oj=execOp (a.put oi.dst v).eval oj∧Region.wanted oj (yielded ops a.tmps)=Region.wanted oj (yielded ops (a.put oi.dst v).tmps):=fun v=>⟨(WQ oj hsj a oi.dst v p1).symm,(WO oj a oi.dst v p1).symm⟩
   have hokj:sV P ops L oj j k a:=by
    obtain⟨k',D,v,hO⟩:=hok.out
    have h1:=(hj2 k' D v hO).1.same (hsame v).1 (hsame v).2
    by_cases hc:gG oi=true
    ·exact h1.stage (hnc hc) k
    ·obtain⟨rfl,_⟩:=hO.stage (by simpa using hc) 0
     exact h1
   refine⟨hokj,fun kj Dj u hOj=>?_⟩
   have hsi2:execOp (a.put oj.dst u).eval oi=execOp a.eval oi:=WQ oi hsi a oj.dst u p3
   have hwi2:Region.wanted oi (yielded ops (a.put oj.dst u).tmps)=Region.wanted oi (yielded ops a.tmps):=WO oi a oj.dst u p3
   have hstage:gG oi=true→kj=k:=fun hc=>(hOj.stage (hnc hc) 0).1
   have hoki:sV P ops L oi i kj (a.put oj.dst u):=by
    by_cases hc:gG oi=true
    ·rw [hstage hc];exact hok.same hsi2 hwi2
    ·exact(hok.same hsi2 hwi2).stage (by simpa using hc) kj
   refine ih (listed.setIfInBounds j true) kj (Dj ++ X) (a.put oj.dst u) hfree' ⟨B,fun m hm=>?_,fun hc m om hom hcm hmi hun=>?_,b3⟩ hr' ⟨hoki,fun ki Di v hOi=>?_⟩
   ·obtain⟨c1,c2⟩:=b1 m hm
    refine⟨?_,c2⟩
    rw [iY true (by rintro rfl;rw [hm] at hBj;cases hBj)]
    exact c1
   ·refine b2 hc m om hom hcm hmi ?_
    by_cases hjm:j=m
    ·subst hjm;exact hjun
    ·rw [iY true hjm] at hun;exact hun
   ·have hOi':=hOi.same hsi2.symm hwi2.symm
    by_cases hc:gG oi=true
    ·obtain rfl:=hstage hc
     have h3:=(hj2 ki Di v hOi').2
     obtain⟨_,h4⟩:=(hOj.same (a':=a.put oi.dst v) (hsame v).1.symm (hsame v).2.symm).stage (hnc hc) ki
     have h5:=h3 ki Dj u h4
     rw [jG _ _ (WV hji),wE a v u p2] at h5
     refine nY hP _ _ _ _ _ _ ?_ h5
     rw [← bu,← bu]
     exact dY X lQ
    ·obtain⟨rfl,h4⟩:=hOi'.stage (by simpa using hc) k
     have h3:=(hj2 k Di v h4).2
     have h5:=h3 ki Dj u (hOj.same (a':=a.put oi.dst v) (hsame v).1.symm (hsame v).2.symm)
     rw [jG _ _ (WV hji),wE a v u p2] at h5
     refine nY hP _ _ _ _ _ _ ?_ h5
     rw [← bu,← bu]
     exact dY X lQ
def tail4 (md:Region.Mode)(ops:Array Oper):Nat→Nat→Array Bool→Bool
 | 0,_,listed=>(Region.ready md ops listed).isEmpty
 | n+1,k,listed=>Region.ready md ops listed == [k] && tail4 md ops n (k+1) (listed.setIfInBounds k true)
theorem tu {Q':Exit→Act→World→Prop}:∀(l:List Oper) (k:Nat) (listed:Array Bool) (a:Act) (w:World),(∀j,l[j]? = ops[k+j]?)→tail4 md ops l.length k listed=true→wpList P ops Q' l a w→wpAny P md ops Q' l.length listed a w
 | [],_,_,_,_,_,hB,h=>⟨by simpa [tail4] using hB,h⟩
 | o :: l,k,listed,a,w,hl,hB,h=>by
  have h0:ops[k]? = some o:=by simpa using (hl 0).symm
  simp only [List.length_cons,tail4,aH,WT] at hB
  obtain⟨hr,hB'⟩:=hB
  refine⟨fun e=>(by rw [hr] at e;cases e),fun i hi=>?_⟩
  rw [hr,eF] at hi
  subst hi
  unfold wpOp
  simp only [h0]
  have hrec:∀a' w',wpList P ops Q' l a' w'→wpAny P md ops Q' l.length (listed.setIfInBounds i true) a' w':=fun a' w' h'=>tu l (i+1) _ a' w' (fun j=>by have:=hl (j+1);simpa [lN,oZ 1 j] using this) hB' h'
  unfold wpList at h
  split
  ·rename_i hw
   rw [aC hw] at h
   exact h.imp (Oper.wp_mono hrec) id
  ·rename_i hw
   rw [ax hw] at h
   exact hrec _ _ h
def zB (md:Region.Mode)(ops:Array Oper)(m t:Nat):Nat→Nat→Array Bool→Bool
 | 0,_,listed=>(Region.ready md ops listed).all (fun j=>decide (m≤j)) && tail4 md ops t m listed
 | n+1,k,listed=>(Region.ready md ops listed).contains k && Region.free md ops listed k && zB md ops m t n (k+1) (listed.setIfInBounds k true)
def sD (md:Region.Mode)(ops:Array Oper)(m i:Nat)(B:List Nat):Bool :=
 (B.all fun j=>decide (i < j) && match ops[j]? with | some o=>o.after.any fun e=>Region.binds md e && (e.on == i || B.contains e.on) | none=>false) &&
 ((List.range ops.size).all fun j=>!(mZ ops i && mZ ops j && decide (i < j)) || B.contains j) && ((List.range ops.size).all fun j=>!decide (m≤j) || B.contains j)
def xh (md:Region.Mode)(ops:Array Oper)(m t:Nat):Bool :=
 Region.noSelect ops && zB md ops m t m 0 (Array.replicate ops.size false) && ((List.range m).all fun i=>sD md ops m i (pR md ops i)) && decide (m+t=ops.size)
theorem rM {i:Nat}{B:List Nat}(h:sD md ops m i B=true) :
  (∀j,B.contains j=true→i < j∧∃oj,ops[j]? = some oj∧∃e∈oj.after,Region.binds md e=true∧(e.on=i∨B.contains e.on=true)) ∧
  (mZ ops i=true→∀j oj,ops[j]? = some oj→gG oj=true→i < j→B.contains j=true)∧(∀j oj,ops[j]? = some oj→m≤j→B.contains j=true):=by
 unfold sD at h
 rw [aH,aH] at h
 obtain⟨⟨h1,h2⟩,h3⟩:=h
 refine⟨fun j hj=>?_,fun hci j oj hoj hc hij=>?_,fun j oj hoj hmj=>?_⟩
 ·rw [dX] at h1
  have:=h1 j (by simpa using hj)
  rw [aH] at this
  obtain⟨g1,g2⟩:=this
  refine⟨by simpa using g1,?_⟩
  cases ho:ops[j]? with
  | none=>rw [ho] at g2;cases g2
  | some oj =>
   rw [ho] at g2
   obtain⟨e,he,hb⟩:=XB.1 g2
   simp only [aH,xQ,WT] at hb
   exact⟨oj,rfl,e,he,hb.1,hb.2⟩
 ·rw [dX] at h2
  have:=h2 j (iw.2 (aX.1 hoj).1)
  have hca:mZ ops j=true:=by unfold mZ;rw [hoj];exact hc
  simp only [hca,hci,hij,Xw,Ye,WX,iE] at this
  exact this
 ·rw [dX] at h3
  have:=h3 j (iw.2 (aX.1 hoj).1)
  simp only [hmj,Xw,WX,iE] at this
  exact this
theorem nG {t:Nat}{Q0:Nat→List Ob→Act→Prop}(hP:∀listed k X Y a,X.Perm Y→Q listed k X a→Q listed k Y a)(hs:Region.noSelect ops=true)(hb:((List.range m).all fun i=>sD md ops m i (pR md ops i))=true)
  (hQ:∀listed k X a,tail4 md ops t m listed=true→Q0 k X a→Q listed k X a) :
  ∀(l:List Oper) (i:Nat) (listed:Array Bool) (k:Nat) (X:List Ob) (a:Act),i+l.length=m→(∀j,j < l.length→l[j]? = ops[i+j]?) →
  (∀j,listed.getD j true=false→i≤j)→(∀j,i≤j→j < ops.size→listed.getD j true=false) →
  zB md ops m t l.length i listed=true→qi P ops L Q0 i k X l a→oO P ops L md m Q l.length listed k X a
 | [],i,listed,k,X,a,_,_,_,_,hB,h=>by
  simp only [List.length_nil,zB,aH,dX,dG] at hB
  exact⟨hB.1,hQ _ _ _ _ hB.2 h⟩
 | o :: l,i,listed,k,X,a,him,hl,hlo,hhi,hB,h=>by
  have h0:ops[i]? = some o:=by simpa using (hl 0 (by simp)).symm
  simp only [List.length_cons,zB,aH] at hB
  obtain⟨⟨hr,hf⟩,hB'⟩:=hB
  have hlt:i < ops.size:=(aX.1 h0).1
  have hil:i < m:=by simp at him;omega
  have hmz:i < listed.size:=by
   rcases jq i listed.size with h' | h'
   ·exact h'
   ·have:=hhi i (au _) hlt;simp [eU h'] at this
  obtain⟨c1,c2,c3⟩:=rM ((dX.1 hb) i (iw.2 hil))
  refine qX hP h0 hil (xP hs) l.length listed k X a (Xe h0 hf) ⟨fun j=>(pR md ops i).contains j,fun j hj=>?_,fun hc j oj hoj hcj hji hun=>c2 (by unfold mZ;rw [h0];exact hc) j oj hoj hcj (by have:=hlo j hun;omega),c3⟩ (by simpa using hr) ⟨h.1,fun k' D v hO=>?_⟩
  ·obtain⟨g1,oj,hoj,g2⟩:=c1 j hj
   exact⟨hhi j (by omega) (aX.1 hoj).1,oj,hoj,g2⟩
  ·refine nG hP hs hb hQ l (i+1) _ k' _ _ (by simp at him;omega) (fun j hj=>by have:=hl (j+1) (by simpa using hj);simpa [lN,oZ 1 j] using this) ?_ ?_ hB' (h.2 k' D v hO)
   ·intro j hj
    by_cases hjm:i=j
    ·subst hjm;simp [hmz] at hj
    ·rw [iY true hjm] at hj;have:=hlo j hj;omega
   ·intro j hj hjs
    rw [iY true (by omega)]
    exact hhi j (by omega) hjs
theorem sH {id:Nat}{Q':Exit→Act→World→Prop}{a:Act}{w:World}{l:List Oper}(L:Pl)(m:Nat)(hm:P.follows .mixedOrders=true)(hB:xh .any l.toArray m (l.length - m)=true)
  (hS:∀k X w,L.C k X w→L.S w)(hM:∀k X w cs ty,L.C k X w→L.C k (bk w.heap.size cs ty :: X) (w.alloc (.cells cs.toArray ty)))(hP:∀k X Y w,X.Perm Y→L.C k X w→L.C k Y w)(hC:L.C 0 [] w.drew)
  (h:qi P l.toArray L (fun k X a'=>∀w',L.C k X w'→wpList P l.toArray Q' (l.drop m) a' w') 0 0 [] (l.take m) a):(Code.region id l.toArray true).wp P Q' a w:=by
 simp only [xh,aH,dG] at hB
 obtain⟨⟨⟨hs,hlx⟩,hb⟩,hsz⟩:=hB
 have hml:m≤l.length:=by simp at hsz;omega
 have htk:(l.take m).length=m:=by simp [hml]
 refine XI hm ?_
 have h1:=nG (P:=P) (L:=L) (md:=.any) (m:=m) (t:=l.length - m) (Q:=fun listed k X a'=>∀w',L.C k X w'→wpAny P .any l.toArray Q' (l.length - m) listed a' w')
  (fun listed k X Y a hp hq w' hw'=>hq w' (hP _ _ _ _ hp.symm hw')) hs hb
  (fun listed k X a ht hq w' hw'=>by
   have:=tu (P:=P) (md:=.any) (ops:=l.toArray) (Q':=Q') (l.drop m) m listed a w' (fun j=>by simp) (by simpa using ht) (hq w' hw')
   simpa using this)
  (l.take m) 0 (Array.replicate l.toArray.size false) 0 [] a (by rw [htk];omega) (fun j hj=>by rw [eX];simp at hj ⊢;omega) (by simp) (by simp;intro j hj;simp [hj]) (by rw [htk];exact hlx) h
 have h2:=ng (Q':=Q') hS hM (fun listed k X a w' hw' hq=>hq w' hw') _ _ 0 [] a _ hC h1
 have e:(l.take m).length+(l.length - m)=l.toArray.size:=by rw [htk];simp;omega
 rw [e] at h2
 exact h2
end
section
variable {P : Program} {ops : Array Oper} {L : Pl} {Q : Nat → List Ob → Act → Prop} {i k : Nat} {X : List Ob} {o : Oper} {rest : List Oper} {a : Act}
theorem vU {S:World→Prop} [hne:Nonempty (dS S)] {v v':Value}(h:jo P S o a v)(h':jo P S o a v'):v=v':=by
 obtain⟨x⟩:=hne
 rcases h x.w x.h with e | ⟨e,rfl⟩ <;> rcases h' x.w x.h with e' | ⟨e',rfl⟩
 ·rw [e] at e';simpa using e'
 ·rw [e] at e';simp at e'
 ·rw [e] at e';simp at e'
 ·rfl
theorem aK (hw:Region.wanted o (yielded ops a.tmps)=false)(h:qi P ops L Q (i+1) k X rest (a.put o.dst undef)):qi P ops L Q i k X (o :: rest) a:=by
 refine⟨fun h'=>absurd (hw.symm.trans h') (by decide),fun k' D v hO=>?_⟩
 rcases hO with ⟨_,rfl,rfl,rfl⟩ | ⟨h',_⟩
 ·exact h
 ·rw [hw] at h';cases h'
theorem aN [hne:Nonempty (dS L.S)] (hk:kindOf o=0)(hc:gG o=false)(h:∀K:Act→Prop,Shut (∀a,qi P ops L Q (i+1) k X rest a→K a)→wpQuiet P ops (fun w'=>∃x:dS L.S,w'=x.w) K [o] a):qi P ops L Q i k X (o :: rest) a:=by
 have h1:=h (qi P ops L Q (i+1) k X rest) (fun _ h=>h)
 unfold wpQuiet at h1
 split at h1
 ·rename_i hw
  obtain⟨v,h2,h3⟩:=h1
  have hv:jo P L.S o a v:=fun w hS=>by
   have h4:=h2 w ⟨⟨w,hS⟩,rfl⟩
   unfold Oper.quietAt at h4
   generalize hr:(execOp a.eval o).run P w=r at h4
   cases r with
   | halt x w'=>exact h4.elim
   | ok n w' =>
    cases n <;> simp only [Oper.quietUpon] at h4
    case value u=>obtain⟨rfl,rfl⟩:=h4;exact .inl rfl
    case skip=>obtain⟨rfl,rfl⟩:=h4;exact .inr ⟨rfl,rfl⟩
    case enter f args=>exact absurd hr (zo hc)
  refine⟨fun _=>⟨fun _=>⟨v,hv⟩,fun e=>absurd (hk.symm.trans e) (by decide),fun e=>absurd (hk.symm.trans e) (by decide)⟩,fun k' D v' hO=>?_⟩
  rcases hO with ⟨h',_⟩ | ⟨_,⟨_,hv',rfl,rfl⟩ | ⟨e,_⟩ | ⟨e,_⟩⟩
  ·rw [hw] at h';cases h'
  ·rw [← vU hv hv'];exact h3
  ·rw [hk] at e;cases e
  ·rw [hk] at e;cases e
 ·rename_i hw
  exact aK (by simpa using hw) h1
theorem dM {f:FuncId}{args:Array Value}(v:Value)(hv:L.val k=v)(hw:Region.wanted o (yielded ops a.tmps)=true)(hk:kindOf o=1)(hx:∀w,(execOp a.eval o).run P w=.ok (.enter f args) w)
  (hC:∀X w,L.C k X w→Calls P f args w (fun e w'=>e=.returned v∧L.C (k+1) X w'))(h:qi P ops L Q (i+1) (k+1) X rest (a.put o.dst v)):qi P ops L Q i k X (o :: rest) a:=by
 subst hv
 refine⟨fun _=>⟨fun e=>absurd (hk.symm.trans e) (by decide),fun _ X w hw'=>⟨f,args,hx w,hC X w hw'⟩,fun e=>absurd (hk.symm.trans e) (by decide)⟩,fun k' D v' hO=>?_⟩
 rcases hO with ⟨h',_⟩ | ⟨_,⟨e,_⟩ | ⟨_,rfl,rfl,rfl⟩ | ⟨e,_⟩⟩
 ·rw [hw] at h';cases h'
 ·rw [hk] at e;cases e
 ·exact h
 ·rw [hk] at e;cases e
theorem rY (mk:Nat→Value)(cs:List Value)(ty:TypeId)(e1:L.made i=mk)(e2:L.cs i=cs)(e3:L.ty i=ty)(hw:Region.wanted o (yielded ops a.tmps)=true)(hk:kindOf o=2)
  (hx:∀w,(execOp a.eval o).run P w=.ok (.value (mk w.heap.size)) (w.alloc (.cells cs.toArray ty)))(h:∀g,qi P ops L Q (i+1) k (bk g cs ty :: X) rest (a.put o.dst (mk g))):qi P ops L Q i k X (o :: rest) a:=by
 subst e1 e2 e3
 refine⟨fun _=>⟨fun e=>absurd (hk.symm.trans e) (by decide),fun e=>absurd (hk.symm.trans e) (by decide),fun _=>hx⟩,fun k' D v' hO=>?_⟩
 rcases hO with ⟨h',_⟩ | ⟨_,⟨e,_⟩ | ⟨e,_⟩ | ⟨_,rfl,g,rfl,rfl⟩⟩
 ·rw [hw] at h';cases h'
 ·rw [hk] at e;cases e
 ·rw [hk] at e;cases e
 ·exact h g
theorem eH (h:Q k X a):qi P ops L Q i k X [] a:=h
end
theorem All.perm {B:Nat}{w0 w:World}{l l':List Ob}(h:All B w0 l w)(hp:l.Perm l'):All B w0 l' w :=
 ⟨fun o ho=>h.P o (hp.mem_iff.2 ho),(hp.pairwise_iff (fun {x y} hxy k h1 h2=>hxy k h2 h1)).1 h.apart,fun o ho=>h.base o (hp.mem_iff.2 ho),h.below,h.le⟩
def lC (B:Nat)(w0:World)(l:Nat→List Ob)(w:World):Prop:=∃k X,All B w0 (X ++ l k) w
abbrev U8 (B:Nat) (w0:World) (l:Nat→List Ob) (val:Nat→Value) (made:Nat→Nat→Value) (cs:Nat→List Value) (ty:Nat→TypeId):Pl:=⟨lC B w0 l,fun k X w=>All B w0 (X ++ l k) w,val,made,cs,ty⟩
theorem yX {P:Program}{id:Nat}{Q':Exit→Act→World→Prop}{a:Act}{w:World}{ls:List Oper}(B:Nat)(w0:World)(l:Nat→List Ob)(val:Nat→Value)(made:Nat→Nat→Value)(cs:Nat→List Value)(ty:Nat→TypeId)(m:Nat)
  (hm:P.follows .mixedOrders=true)(hB:xh .any ls.toArray m (ls.length - m)=true)(hC:All B w0 (l 0) w)
  (h:qi P ls.toArray (U8 B w0 l val made cs ty) (fun k X a'=>∀w',All B w0 (X ++ l k) w'→wpList P ls.toArray Q' (ls.drop m) a' w') 0 0 [] (ls.take m) a):(Code.region id ls.toArray true).wp P Q' a w :=
 sH (U8 B w0 l val made cs ty) m hm hB (fun k X w h=>⟨k,X,h⟩) (fun k X w cs ty h=>h.sO cs ty) (fun k X Y w hp h=>h.perm (dY _ hp)) (hC.still ((ak _ _).drew)) h
abbrev jc (w0:World) (w:World):Prop:=RowKit.Below w0.heap.size w0 w
abbrev VW (w0:World) (val:Nat→Value):Pl:=⟨jc w0,fun _ _ w=>jc w0 w,val,fun _ _=>undef,fun _=>[],fun _=>0⟩
theorem gI (w0:World):Nonempty (dS (jc w0)):=⟨⟨w0,ak _ _⟩⟩
theorem oP {P:Program}{id:Nat}{Q':Exit→Act→World→Prop}{a:Act}{w:World}{ls:List Oper}(val:Nat→Value)(m:Nat)
  (hm:P.follows .mixedOrders=true)(hB:xh .any ls.toArray m (ls.length - m)=true)
  (h:qi P ls.toArray (VW w val) (fun k X a'=>∀w',jc w w'→wpList P ls.toArray Q' (ls.drop m) a' w') 0 0 [] (ls.take m) a):(Code.region id ls.toArray true).wp P Q' a w :=
 sH (VW w val) m hm hB (fun k X w h=>h) (fun k X w' cs ty h=>h.alloc h.size _) (fun k X Y w hp h=>h) ((ak _ _).drew) h
end Go.Proofs.YtfelmdkeaacfeaaGreatDoor.W
end
section
namespace Go.Proofs.YtfelmdkeaacfeaaGreatDoor.W
open Go.RowKit
theorem iI {B R g cap:Nat}{S:Tr}{fv:Value}{w:World}(h:fZ B R S (.slice (some ⟨g,0,none⟩) S.slots.length cap) fv w)(j:Nat):w.frozen? ⟨g,j,none⟩=false:=by
 rcases h.slots.2 with ⟨e,_⟩ | ⟨g',cap',cur,e,_,hh,_⟩
 ·cases e
 ·cases e;exact kG hh j
theorem iT (S:Tr)(i:Nat)(n:Nd):(S.put i n).slots.length=S.slots.length:=by unfold Tr.put;simp
theorem tX (l:List Nat):pv l l.length=l.getLast?:=by
 unfold pv
 cases l with
 | nil=>rfl
 | cons a t=>rw [ax (by simp),qw]
def recC (kind target node prev next index:Int)(name old:List UInt8)(had:Bool)(count size:Int):List Value :=
 [.int .i64 kind,.int .i64 target,.int .i64 node,.int .i64 prev,.int .i64 next,.int .i64 index,dA name,dA old,.bool had,.int .i64 count,.int .i64 size]
theorem qK {w:World}{r:Nat}(h:dD w r (recC 0 0 0 0 0 0 [] [] false 0 0) 41) :
  (w.cell? ⟨r,0,none⟩=some (.int .i64 0)∧w.cell? ⟨r,1,none⟩=some (.int .i64 0)∧w.cell? ⟨r,2,none⟩=some (.int .i64 0)∧w.cell? ⟨r,3,none⟩=some (.int .i64 0)∧w.cell? ⟨r,4,none⟩=some (.int .i64 0)∧w.cell? ⟨r,5,none⟩=some (.int .i64 0) ∧
   w.cell? ⟨r,6,none⟩=some (dA [])∧w.cell? ⟨r,7,none⟩=some (dA [])∧w.cell? ⟨r,8,none⟩=some (.bool false)∧w.cell? ⟨r,9,none⟩=some (.int .i64 0)∧w.cell? ⟨r,10,none⟩=some (.int .i64 0))∧∀j,w.frozen? ⟨r,j,none⟩=false :=
 ⟨⟨h.cell 0,h.cell 1,h.cell 2,h.cell 3,h.cell 4,h.cell 5,h.cell 6,h.cell 7,h.cell 8,h.cell 9,h.cell 10⟩,h.free⟩
theorem Hy:(Tryz.prog.info? 41).map (·.size)=some 11:=by kernel_rfl
theorem CO {w:World}{r:Nat}(h:dD w r (recC 0 0 0 0 0 0 [] [] false 0 0) 41)(a b c d e f:Int)(n o:ByteArray)(x:Bool)(y z:Int) :
  (((((((((((w.setCell ⟨r,0,none⟩ (.int .i64 a)).setCell ⟨r,1,none⟩ (.int .i64 b)).setCell ⟨r,2,none⟩ (.int .i64 c)).setCell ⟨r,3,none⟩ (.int .i64 d)).setCell ⟨r,4,none⟩ (.int .i64 e)).setCell ⟨r,5,none⟩ (.int .i64 f)).setCell ⟨r,6,none⟩ (.string n)).setCell ⟨r,7,none⟩ (.string o)).setCell ⟨r,8,none⟩ (.bool x)).setCell ⟨r,9,none⟩ (.int .i64 y)).setCell ⟨r,10,none⟩ (.int .i64 z)).heap[r]? =
   some (.cells #[.int .i64 a,.int .i64 b,.int .i64 c,.int .i64 d,.int .i64 e,.int .i64 f,.string n,.string o,.bool x,.int .i64 y,.int .i64 z] 41 (0,0)) :=
 ((((((((((h.set 0 (.int .i64 a)).set 1 (.int .i64 b)).set 2 (.int .i64 c)).set 3 (.int .i64 d)).set 4 (.int .i64 e)).set 5 (.int .i64 f)).set 6 (.string n)).set 7 (.string o)).set 8 (.bool x)).set 9 (.int .i64 y)).set 10 (.int .i64 z)
theorem wL (w:World)(r:Nat)(a b c d e f n o x y z:Value) :
  dU (fun k=>k=r) w (((((((((((w.setCell ⟨r,0,none⟩ a).setCell ⟨r,1,none⟩ b).setCell ⟨r,2,none⟩ c).setCell ⟨r,3,none⟩ d).setCell ⟨r,4,none⟩ e).setCell ⟨r,5,none⟩ f).setCell ⟨r,6,none⟩ n).setCell ⟨r,7,none⟩ o).setCell ⟨r,8,none⟩ x).setCell ⟨r,9,none⟩ y).setCell ⟨r,10,none⟩ z):=by
 have h:=fun {w':World} (k:dU (fun k=>k=r) w w') (j:Nat) (v:Value)=>k.setCell ⟨r,j,none⟩ (fun _=>rfl) v
 exact h (h (h (h (h (h (h (h (h (h (h (dU.refl _ w) 0 a) 1 b) 2 c) 3 d) 4 e) 5 f) 6 n) 7 o) 8 x) 9 y) 10 z
theorem fZ.Rn {B R r:Nat}{S:Tr}{sv fv:Value}{w w':World}{cs:List Value}(h:fZ B R S sv fv w)(hr:dD w r cs 41)(k:dU (fun k=>k=r) w w'):fZ B R S sv fv w':=by
 have other:∀{k:Nat} {cs:Array Value} {t:TypeId},w.heap[k]? = some (.cells cs t (0,0))→41≠t→w'.heap[k]? = w.heap[k]?:=fun hk ht=>k.block _ (gp hk) (fun e=>dw hr hk ht e.symm)
 have keep:∀{e sz n:Nat} {v:Value} {xs:List Value},41≠e→w.ownsRow B e sz v n xs→w'.ownsRow B e sz v n xs:=fun ht ⟨h1,h2⟩ =>
  ⟨h1,h2.imp id fun⟨g',cap',cur',e1,e2,e3,rest⟩=>⟨g',cap',cur',e1,e2,(other e3 ht).trans e3,rest⟩⟩
 refine⟨h.blk.kept (other h.blk (by decide)),keep (by decide) h.slots,keep (by decide) h.free,fun i n hi=>?_,h.base,h.few⟩
 obtain⟨a,cap,e,h'⟩:=h.attrs i n hi
 refine⟨a,cap,e,h'.imp id ?_⟩
 rintro⟨g,cur,e,hB,hg,hc⟩
 exact⟨g,cur,e,hB,(other hg (by decide)).trans hg,hc⟩
theorem D5 {B R g cap:Nat}{S:Tr}{fv:Value}{w:World}{K:Nat→List Nat}{d d':Nat→Nat}(h:fZ B R S (.slice (some ⟨g,0,none⟩) S.slots.length cap) fv w)(hL:Lk S K d)(p c:Nat)(np nc:Nd)(hp:S.at p=some np)(hc:S.at c=some nc)(hpc:p≠c)
  (hdet:∀q,c∉K q)(hL':∀S',Linked S S' (K p) p (K p).length c→Lk S' (jK K p (K p).length c) d') :
  Calls Tryz.prog 57 #[.pointer (some ⟨R,0,none⟩),.int .i64 (S.hd p),.int .i64 (S.hd c),.int .i64 0] w fun e w'=>∃S',Linked S S' (K p) p (K p).length c∧e=.returned (.agg (recC 1 (S.hd p) (S.hd c) np.last 0 (K p).length [] [] false 0 0).toArray) ∧
   fZ B R S' (.slice (some ⟨g,0,none⟩) S'.slots.length cap) fv w'∧dU (fun k=>k=g) w w':=by
 have HP:=ae (fun wx (hb:Below w.heap.size w wx)=>bV (h.below hb) (S.hd p) (hd_ok hL hp).1 (fV hL hp))
 have HC:=ae (fun wx (hb:Below w.heap.size w wx)=>bV (h.below hb) (S.hd c) (hd_ok hL hc).1 (fV hL hc))
 have HT:=ae h
 have hbl:Below w.heap.size w (w.alloc (.cells #[.int .i64 0,.int .i64 0,.int .i64 0,.int .i64 0,.int .i64 0,.int .i64 0,.string ⟨#[]⟩,.string ⟨#[]⟩,.bool false,.int .i64 0,.int .i64 0] 41)):=(ak _ _).alloc (au _) _
 clear h
 go_enter Tryz.func57,Tryz.ntmps57
 go_wp2_with fail
 refine(HP.out _ hbl).mono ?_
 rintro e w2 ⟨rfl,hb2⟩
 have hB2:=hbl.trans (hb2.mono hbl.size)
 go_wp2_with fail
 refine(HC.out _ hB2).mono ?_
 rintro e w3 ⟨rfl,hb3⟩
 have hB3:=hB2.trans (hb3.mono hB2.size)
 have hT3:=HT.out.below hB3
 have c4:=bK hT3 hc 4 (by omega)
 have c8:=bK hT3 hc 8 (by omega)
 simp only [jd,fQ,fP] at c4 c8
 have z4:=iI hT3 (c*10+1+4)
 have z8:=iI hT3 (c*10+1+8)
 have HT3:=ae hT3
 clear hT3
 go_upto_region 6 with fail
 have hT4:=(HT3.out.rX (n':={ nc with parent:=S.hd p }) hc 4 (.int .i64 (S.hd p)) (by omega) rfl rfl rfl).rX (i:=c) (n:={ nc with parent:=S.hd p }) (n':={ nc with parent:=S.hd p,next:=0 }) (by rw [dC hc,aC rfl]) 8 (.int .i64 0) (by omega) rfl rfl rfl
 have hch4:dU (fun k=>k=g) w3 ((w3.setCell ⟨g,c*10+1+4,none⟩ (.int .i64 (S.hd p))).setCell ⟨g,c*10+1+8,none⟩ (.int .i64 0)) :=
  ((dU.refl (fun k=>k=g) w3).setCell ⟨g,c*10+1+4,none⟩ (fun _=>(rfl:g=g)) _).setCell ⟨g,c*10+1+8,none⟩ (fun _=>(rfl:g=g)) _
 obtain⟨S4,hS4⟩:∃S4,S4=(S.put c { nc with parent:=S.hd p }).put c { nc with parent:=S.hd p,next:=0 }:=⟨_,rfl⟩
 rw [← hS4] at hT4
 have hp4:S4.at p=some np:=by rw [hS4,dC (by rw [dC hc,aC rfl]),ax hpc,dC hc,ax hpc];exact hp
 have hc4:S4.at c=some { nc with parent:=S.hd p,next:=0 }:=by rw [hS4,dC (by rw [dC hc,aC rfl]),aC rfl]
 have l6:=bK hT4 hp4 6 (by omega)
 have l7:=bK hT4 hc4 7 (by omega)
 simp only [jd,fQ,fP] at l6 l7
 have z7:=iI hT4 (c*10+1+7)
 have HT4:=ae hT4
 have HC4:=ae hch4
 clear hT4 hch4 HT3 c4 c8 z4 z8
 generalize (w3.setCell ⟨g,c*10+1+4,none⟩ (.int .i64 (S.hd p))).setCell ⟨g,c*10+1+8,none⟩ (.int .i64 0)=w4 at *
 go_upto_region 7 with fail
 have hT5:=HT4.out.rX (n':={ nc with parent:=S.hd p,next:=0,prev:=np.last }) hc4 7 (.int .i64 np.last) (by omega) rfl rfl rfl
 have hch5:dU (fun k=>k=g) w4 (w4.setCell ⟨g,c*10+1+7,none⟩ (.int .i64 np.last)):=(dU.refl (fun k=>k=g) w4).setCell ⟨g,c*10+1+7,none⟩ (fun _=>(rfl:g=g)) _
 obtain⟨S5,hS5⟩:∃S5,S5=S4.put c { nc with parent:=S.hd p,next:=0,prev:=np.last }:=⟨_,rfl⟩
 rw [← hS5] at hT5
 have hp5:S5.at p=some np:=by rw [hS5,dC hc4,ax hpc];exact hp4
 have hc5:S5.at c=some { nc with parent:=S.hd p,next:=0,prev:=np.last }:=by rw [hS5,dC hc4,aC rfl]
 have m6:=bK hT5 hp5 6 (by omega)
 simp only [jd,fQ,fP] at m6
 have y6:=iI hT5 (p*10+1+6)
 have HT5:=ae hT5
 have HC5:=ae hch5
 clear hT5 hch5 HT4 l6 l7 z7
 generalize w4.setCell ⟨g,c*10+1+7,none⟩ (.int .i64 np.last)=w5 at *
 go_upto_region 8 with fail
 have hT6:=HT5.out.rX (n':={ np with last:=S.hd c }) hp5 6 (.int .i64 (S.hd c)) (by omega) rfl rfl rfl
 have hch6:dU (fun k=>k=g) w5 (w5.setCell ⟨g,p*10+1+6,none⟩ (.int .i64 (S.hd c))):=(dU.refl (fun k=>k=g) w5).setCell ⟨g,p*10+1+6,none⟩ (fun _=>(rfl:g=g)) _
 obtain⟨S6,hS6⟩:∃S6,S6=S5.put p { np with last:=S.hd c }:=⟨_,rfl⟩
 rw [← hS6] at hT6
 have hp6:S6.at p=some { np with last:=S.hd c }:=by rw [hS6,dC hp5,aC rfl]
 have hc6:S6.at c=some { nc with parent:=S.hd p,next:=0,prev:=np.last }:=by rw [hS6,dC hp5,ax (fun e=>hpc e.symm)];exact hc5
 have o7:=bK hT6 hc6 7 (by omega)
 have o5:=bK hT6 hp6 5 (by omega)
 simp only [jd,fQ,fP] at o7 o5
 have x5:=iI hT6 (p*10+1+5)
 have HT6:=ae hT6
 have HC6:=ae hch6
 clear hT6 hch6 HT5 m6 y6
 generalize w5.setCell ⟨g,p*10+1+6,none⟩ (.int .i64 (S.hd c))=w6 at *
 have hlast:=(hL.node p np hp).2
 cases hq:(K p).getLast?
 case' none =>
  rw [hq,show hO S none=0 from rfl] at hlast
  rw [hlast] at o7
  have hK:K p=[]:=X5.1 hq
  go_upto_region 11 with fail
  have hT7:=HT6.out.rX (n':={ np with last:=S.hd c,first:=S.hd c }) hp6 5 (.int .i64 (S.hd c)) (by omega) rfl rfl rfl
  have hch7:dU (fun k=>k=g) w6 (w6.setCell ⟨g,p*10+1+5,none⟩ (.int .i64 (S.hd c))):=(dU.refl (fun k=>k=g) w6).setCell ⟨g,p*10+1+5,none⟩ (fun _=>(rfl:g=g)) _
  obtain⟨S7,hS7⟩:∃S7,S7=S6.put p { np with last:=S.hd c,first:=S.hd c }:=⟨_,rfl⟩
  rw [← hS7] at hT7
  have hlk:Linked S S7 (K p) p (K p).length c:=by
   refine⟨fun x=>?_,by rw [hS7,iT,hS6,iT,hS5,iT,hS4,iT,iT],by rw [hS7,hS6,hS5,hS4];rfl,by rw [hS7,hS6,hS5,hS4];rfl,by rw [hS7,hS6,hS5,hS4];rfl,by rw [hS7,hS6,hS5,hS4];rfl⟩
   rw [hS7,dC hp6]
   by_cases xp:x=p
   ·subst xp
    rw [aC rfl,hp]
    simp only [Option.map_some]
    unfold jI
    simp [hpc,hK,pv]
   ·rw [ax xp,hS6,dC hp5,ax xp,hS5,dC hc4]
    by_cases xc:x=c
    ·subst xc
     rw [aC rfl,hc]
     simp only [Option.map_some]
     unfold jI
     simp [hK,pv,hO,hlast,fun e:x=p=>xp e]
    ·rw [ax xc,hS4,dC (by rw [dC hc,aC rfl]),ax xc,dC hc,ax xc]
     cases S.at x with
     | none=>rfl
     | some n=>simp [jI,xc,xp,hK,pv]
  have hl7:=hL' S7 hlk
  have hc7:S7.at c=some { nc with parent:=S.hd p,next:=0,prev:=np.last }:=by rw [hS7,dC hp6,ax (fun e=>hpc e.symm)];exact hc6
  have HT7:=ae hT7
  have HC7:=ae hch7
  clear hT7 hch7 HT6 o7 o5 x5
  generalize w6.setCell ⟨g,p*10+1+5,none⟩ (.int .i64 (S.hd c))=w7 at *
 case' some q =>
  rw [hq,show hO S (some q)=S.hd q from rfl] at hlast
  rw [hlast] at o7
  have hqm:q∈K p:=wB hq
  have hqc:q≠c:=fun e=>hdet p (e ▸ hqm)
  have hqp:q≠p:=fun e=>by have:=hL.qc p q hqm;rw [e] at this;omega
  obtain⟨nq,hnq⟩:=aB.1 (hL.kin p q hqm).2
  have hq6:S6.at q=some nq:=by rw [hS6,dC hp5,ax hqp,hS5,dC hc4,ax hqc,hS4,dC (by rw [dC hc,aC rfl]),ax hqc,dC hc,ax hqc];exact hnq
  have hhd6:S6.hd q=S.hd q:=by rw [hS6,hS5,hS4];rfl
  have hne:¬S.hd q=0:=by have:=(hd_ok hL hnq).2;omega
  have hne2:(S.hd q == 0)=false:=by simpa using hne
  have HQ:=ae (bV HT6.out (S.hd q) (hd_ok hL hnq).1 (by rw [← hhd6];exact Ea HT6.out.few (dN hq6)))
  go_wp2_with fail
  refine HQ.out.mono ?_
  rintro e w6' ⟨rfl,hb6⟩
  have hT6':=HT6.out.below hb6
  have r8:=bK hT6' hq6 8 (by omega)
  simp only [jd,fQ,fP] at r8
  have y8:=iI hT6' (q*10+1+8)
  have HT6':=ae hT6'
  clear hT6'
  go_upto_region 11 with fail
  have hT7:=HT6'.out.rX (n':={ nq with next:=S.hd c }) hq6 8 (.int .i64 (S.hd c)) (by omega) rfl rfl rfl
  have hch7:dU (fun k=>k=g) w6 (w6'.setCell ⟨g,q*10+1+8,none⟩ (.int .i64 (S.hd c))):=(dU.of_below (F:=fun k=>k=g) hb6).setCell ⟨g,q*10+1+8,none⟩ (fun _=>(rfl:g=g)) _
  obtain⟨S7,hS7⟩:∃S7,S7=S6.put q { nq with next:=S.hd c }:=⟨_,rfl⟩
  rw [← hS7] at hT7
  have hlen:(K p).length≠0:=fun e=>by rw [nO.1 e] at hq;cases hq
  have hlk:Linked S S7 (K p) p (K p).length c:=by
   refine⟨fun x=>?_,by rw [hS7,iT,hS6,iT,hS5,iT,hS4,iT,iT],by rw [hS7,hS6,hS5,hS4];rfl,by rw [hS7,hS6,hS5,hS4];rfl,by rw [hS7,hS6,hS5,hS4];rfl,by rw [hS7,hS6,hS5,hS4];rfl⟩
   rw [hS7,dC hq6]
   by_cases xq:x=q
   ·subst xq
    rw [aC rfl,hnq]
    simp only [Option.map_some]
    unfold jI
    simp [hqc,hqp,tX,hq]
   ·have xq2:¬q=x:=fun e=>xq e.symm
    rw [ax xq,hS6,dC hp5]
    by_cases xp:x=p
    ·subst xp
     rw [aC rfl,hp]
     simp only [Option.map_some]
     unfold jI
     simp [hpc,tX,hq,hlen,xq2]
    ·rw [ax xp,hS5,dC hc4]
     by_cases xc:x=c
     ·subst xc
      rw [aC rfl,hc]
      simp only [Option.map_some]
      unfold jI
      simp [tX,hq,hO,hlast,xp]
     ·rw [ax xc,hS4,dC (by rw [dC hc,aC rfl]),ax xc,dC hc,ax xc]
      cases S.at x with
      | none=>rfl
      | some n=>simp [jI,xc,xp,tX,hq,xq2]
  have hl7:=hL' S7 hlk
  have hc7:S7.at c=some { nc with parent:=S.hd p,next:=0,prev:=np.last }:=by rw [hS7,dC hq6,ax (fun e=>hqc e.symm)];exact hc6
  have HT7:=ae hT7
  have HC7:=ae hch7
  clear hT7 hch7 HT6 HT6' o7 o5 x5 r8 y8 HQ hne hne2
  generalize w6'.setCell ⟨g,q*10+1+8,none⟩ (.int .i64 (S.hd c))=w7 at *
 all_goals
  clear hq hlast
  try clear hK
  try clear hlen
  have HR:=ae (show dD w7 w.heap.size (recC 0 0 0 0 0 0 [] [] false 0 0) 41 from by
   have g0:¬w.heap.size=g:=by have:=(HT.out.slots.lt g rfl).2;omega
   have k0:=dD.new w (recC 0 0 0 0 0 0 [] [] false 0 0) 41
   exact((((((k0.below hb2).below hb3).qU HC4.out g0).qU HC5.out g0).qU HC6.out g0).qU HC7.out g0))
  have HI:=ae (fun wx (hb:Below w7.heap.size w7 wx)=>sQ (HT7.out.below hb) hl7 p (K p).length c (by unfold jK;rw [aC rfl,AY _ _ _ _ (au _),ax (by omega),aC rfl]))
  rw [hlk.hd] at HI
  have c7:=bK HT7.out hc7 7 (by omega)
  simp only [jd,fQ,fP] at c7
  have g7:=(HT7.out.slots.lt g rfl).2
  have hne:=gI w7
  have x7:∀x:dS (jc w7),x.w.cell? ⟨g,c*10+1+7,none⟩=some (.int .i64 np.last):=fun x=>((oK x.h).1 _ _ g7).trans c7
  refine oP (.int .i64 ((K p).length:Int) |> fun v _=>v) 11 (by kernel_rfl) (by kernel_rfl) ?_
  simp only [mD,mr,l9,lZ]
  repeat (first
   | (refine aN (by rfl) (by rfl) (fun K hK=>?_);go_big_quiet_step (fail);refine az ?_;refine hK.out _ ?_;clear hK K)
   | (refine aK (by rfl) ?_;simp only [Act.put,dL,dK,dJ]))
  refine dM (.int .i64 ((K p).length:Int)) rfl (by rfl) (by rfl) (fun w=>by go_simp;exact⟨rfl,rfl⟩) ?_ ?_
  ·intro X w2 h2
   refine(HI.out _ h2).mono ?_
   rintro e w3 ⟨rfl,hb⟩
   exact⟨rfl,jw h2 (hb.mono h2.size)⟩
  simp only [Act.put,dL,dK,dJ]
  repeat (first
   | (refine aN (by rfl) (by rfl) (fun K hK=>?_);go_big_quiet_step (fail);refine az ?_;refine hK.out _ ?_;clear hK K)
   | (refine aK (by rfl) ?_;simp only [Act.put,dL,dK,dJ]))
  refine eH ?_
  intro w8 h8
  have k8:=HR.out.below h8
  obtain⟨⟨q0,q1,q2,q3,q4,q5,q6,q7,q8,q9,q10⟩,zf⟩:=qK k8
  clear HI hne x7
  go_wp2_with fail
  (try simp only [Exit.inBlock,Exit.then])
  have k9:=CO k8 1 (S.hd p) (S.hd c) np.last 0 ((K p).length:Int) ⟨#[]⟩ ⟨#[]⟩ false 0 0
  refine nZ (v:=.agg (recC 1 (S.hd p) (S.hd c) np.last 0 (K p).length [] [] false 0 0).toArray) (Xd Tryz.results57 _ _ w.heap.size 41 _ (0,0) _ ?_ k9 Tryz.underlying41 rfl Hy) rfl ?_
  ·rfl
  have HRC:∀{wf},dU (fun k=>k=w.heap.size) w8 wf→fZ B R S7 (.slice (some ⟨g,0,none⟩) S7.slots.length cap) fv wf∧dU (fun k=>k=g) w wf:=fun {wf} hc=>by
   refine⟨(HT7.out.below h8).Rn k8 hc,?_⟩
   have e3:dU (fun k=>k=g) w w3:=dU.of_below hB3
   have e8:dU (fun k=>k=g) w w8:=((((e3.trans HC4.out (fun _ _ h=>h)).trans HC5.out (fun _ _ h=>h)).trans HC6.out (fun _ _ h=>h)).trans HC7.out (fun _ _ h=>h)).trans (dU.of_below (F:=fun k=>k=g) h8) (fun _ _ h=>h)
   exact e8.trans hc (fun i hi e=>by omega)
  exact⟨S7,hlk,rfl,HRC (wL w8 w.heap.size _ _ _ _ _ _ _ _ _ _ _)⟩
end Go.Proofs.YtfelmdkeaacfeaaGreatDoor.W
end
