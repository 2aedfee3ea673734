/- Texts joined: RegV Mrep TwR Fam. -/
import Derived.Test.YtfelmdkeaacfeaaGreatDoorTB1
import Derived.Test.YtfelmdkeaacfeaaGreatDoorTB5
import Derived.Test.YtfelmdkeaacfeaaGreatDoorTB17
import Derived.Test.YtfelmdkeaacfeaaGreatDoorTB22
import Derived.Test.YtfelmdkeaacfeaaGreatDoorTB7
import Derived.BigQuiet
set_option maxRecDepth 100000
set_option maxHeartbeats 40000000
set_option linter.unusedVariables false
set_option linter.unusedSimpArgs false
section
namespace Go.Proofs.YtfelmdkeaacfeaaGreatDoor.W.RV
open Go
open Go.Proofs.YtfelmdkeaacfeaaGreatDoor.W
structure Pl where
 S:World→Prop
 C:List Value→List Ob→World→Prop
 V:List Value→Value→Prop
 made:Nat→Nat→Value
 cs:Nat→List Value
 ty:Nat→TypeId
section
variable (P : Program) (ops : Array Oper) (L : Pl)
def rE (o:Oper)(a:Act)(mk:Nat→Value)(cs:List Value)(t:TypeId):Prop:=∀w,(execOp a.eval o).run P w=.ok (.value (mk w.heap.size)) (w.alloc (.cells cs.toArray t))
def qg (o:Oper)(a:Act)(k:List Value):Prop :=
 (∃v,L.V k v)∧∀X w,L.C k X w→∃f args,(execOp a.eval o).run P w=.ok (.enter f args) w∧Calls P f args w (fun e w'=>∃v,e=.returned v∧L.V k v∧L.C (v :: k) X w')
def sV (o:Oper)(i:Nat)(k:List Value)(a:Act):Prop:=Region.wanted o (yielded ops a.tmps)=true →
 (kindOf o=0→∃v,jo P L.S o a v)∧(kindOf o=1→qg P L o a k)∧(kindOf o=2→rE P o a (L.made i) (L.cs i) (L.ty i))
def nH (o:Oper)(i:Nat)(k:List Value)(a:Act)(k':List Value)(D:List Ob)(v:Value):Prop :=
 (Region.wanted o (yielded ops a.tmps)=false∧k'=k∧D=[]∧v=undef) ∨
 (Region.wanted o (yielded ops a.tmps)=true∧((kindOf o=0∧jo P L.S o a v∧k'=k∧D=[])∨(kindOf o=1∧L.V k v∧k'=v :: k∧D=[]) ∨
  (kindOf o=2∧k'=k∧∃g,v=L.made i g∧D=[bk g (L.cs i) (L.ty i)])))
def rO (o:Oper)(i:Nat)(k:List Value)(X:List Ob)(a:Act)(K:List Value→List Ob→Act→Prop):Prop :=
 sV P ops L o i k a∧∀k' D v,nH P ops L o i k a k' D v→K k' (D ++ X) (a.put o.dst v)
def qi (Q:List Value→List Ob→Act→Prop):Nat→List Value→List Ob→List Oper→Act→Prop
 | _,k,X,[],a=>Q k X a
 | i,k,X,o :: rest,a=>rO P ops L o i k X a (fun k' X' a'=>qi Q (i+1) k' X' rest a')
def oO (md:Region.Mode)(m:Nat)(Q:Array Bool→List Value→List Ob→Act→Prop):Nat→Array Bool→List Value→List Ob→Act→Prop
 | 0,listed,k,X,a=>(∀j∈Region.ready md ops listed,m≤j)∧Q listed k X a
 | n+1,listed,k,X,a=>Region.ready md ops listed≠[]∧∀i∈Region.ready md ops listed,i < m∧∀o,ops[i]? = some o→rO P ops L o i k X a (fun k' X' a'=>oO md m Q n (listed.setIfInBounds i true) k' X' a')
end
section
variable {P : Program} {ops : Array Oper} {L : Pl} {md : Region.Mode} {m : Nat} {Q : Array Bool → List Value → List Ob → Act → Prop}
theorem sV.same {o:Oper}{i:Nat}{k:List Value}{a a':Act}(h:sV P ops L o i k a)(he:execOp a'.eval o=execOp a.eval o)(hw:Region.wanted o (yielded ops a'.tmps)=Region.wanted o (yielded ops a.tmps)):sV P ops L o i k a':=by
 unfold sV jo qg rE at *
 rw [he,hw]
 exact h
theorem nH.same {o:Oper}{i:Nat}{k k':List Value}{D:List Ob}{v:Value}{a a':Act}(h:nH P ops L o i k a k' D v)(he:execOp a'.eval o=execOp a.eval o)(hw:Region.wanted o (yielded ops a'.tmps)=Region.wanted o (yielded ops a.tmps)):nH P ops L o i k a' k' D v:=by
 unfold nH jo at *
 rw [he,hw]
 exact h
theorem sV.stage {o:Oper}{i:Nat}{k:List Value}{a:Act}(hc:gG o=false)(h:sV P ops L o i k a)(j:List Value):sV P ops L o i j a:=fun hw =>
 ⟨(h hw).1,fun e=>absurd e (nV hc),(h hw).2.2⟩
theorem nH.stage {o:Oper}{i:Nat}{k k':List Value}{D:List Ob}{v:Value}{a:Act}(hc:gG o=false)(h:nH P ops L o i k a k' D v)(j:List Value):k'=k∧nH P ops L o i j a j D v:=by
 rcases h with ⟨h1,h2,h3⟩ | ⟨h1,⟨h2,h3,h4,h5⟩ | ⟨h2,_⟩ | ⟨h2,h3,h4⟩⟩
 ·exact⟨h2,.inl ⟨h1,rfl,h3⟩⟩
 ·exact⟨h4,.inr ⟨h1,.inl ⟨h2,h3,rfl,h5⟩⟩⟩
 ·exact absurd h2 (nV hc)
 ·exact⟨h3,.inr ⟨h1,.inr (.inr ⟨h2,rfl,h4⟩)⟩⟩
theorem sV.out {o:Oper}{i:Nat}{k:List Value}{a:Act}(h:sV P ops L o i k a):∃k' D v,nH P ops L o i k a k' D v:=by
 cases hw:Region.wanted o (yielded ops a.tmps) with
 | false=>exact⟨k,[],undef,.inl ⟨hw,rfl,rfl,rfl⟩⟩
 | true =>
  rcases lh o with e | e | e
  ·obtain⟨v,hv⟩:=(h hw).1 e
   exact⟨k,[],v,.inr ⟨hw,.inl ⟨e,hv,rfl,rfl⟩⟩⟩
  ·obtain⟨⟨v,hv⟩,_⟩:=(h hw).2.1 e
   exact⟨v :: k,[],v,.inr ⟨hw,.inr (.inl ⟨e,hv,rfl,rfl⟩)⟩⟩
  ·exact⟨k,_,_,.inr ⟨hw,.inr (.inr ⟨e,rfl,0,rfl,rfl⟩)⟩⟩
theorem nY (hP:∀listed k X Y a,X.Perm Y→Q listed k X a→Q listed k Y a):∀(n:Nat) (listed:Array Bool) (k:List Value) (X Y:List Ob) (a:Act),X.Perm Y→oO P ops L md m Q n listed k X a→oO P ops L md m Q n listed k Y a:=by
 intro n
 induction n with
 | zero=>intro listed k X Y a hp h;exact⟨h.1,hP _ _ _ _ _ hp h.2⟩
 | succ n ih =>
  intro listed k X Y a hp h
  refine⟨h.1,fun i hi=>⟨(h.2 i hi).1,fun o ho=>?_⟩⟩
  obtain⟨h1,h2⟩:=(h.2 i hi).2 o ho
  exact⟨h1,fun k' D v hO=>ih _ _ _ _ _ (Xg D hp) (h2 k' D v hO)⟩
theorem ng {t:Nat}{Q':Exit→Act→World→Prop}(hS:∀k X w,L.C k X w→L.S w)(hM:∀k X w cs ty,L.C k X w→L.C k (bk w.heap.size cs ty :: X) (w.alloc (.cells cs.toArray ty)))
  (hQ:∀listed k X a w,L.C k X w→Q listed k X a→wpAny P md ops Q' t listed a w) :
  ∀(n:Nat) (listed:Array Bool) (k:List Value) (X:List Ob) (a:Act) (w:World),L.C k X w→oO P ops L md m Q n listed k X a→wpAny P md ops Q' (n+t) listed a w:=by
 intro n
 induction n with
 | zero=>intro listed k X a w hw h;rw [aJ];exact hQ _ _ _ _ _ hw h.2
 | succ n ih =>
  intro listed k X a w hw h
  rw [show n+1+t=(n+t)+1 by omega]
  refine⟨fun e=>absurd e h.1,fun i hi=>?_⟩
  obtain⟨_,o,ho,_⟩:=jD.1 hi
  obtain⟨hok,hn⟩:=(h.2 i hi).2 o ho
  unfold wpOp
  simp only [ho]
  cases hwt:Region.wanted o (yielded ops a.tmps) with
  | false =>
   simp only [iV,iJ]
   exact ih _ _ _ _ _ hw (hn k [] undef (.inl ⟨hwt,rfl,rfl,rfl⟩))
  | true =>
   simp only [oW]
   left
   obtain⟨o1,o2,o3⟩:=hok hwt
   unfold Oper.wp
   rcases lh o with e | e | e
   ·obtain⟨v,hv⟩:=o1 e
    have hk:=hn k [] v (.inr ⟨hwt,.inl ⟨e,hv,rfl,rfl⟩⟩)
    rcases hv w (hS _ _ _ hw) with r | ⟨r,rfl⟩
    ·rw [r];exact ih _ _ _ _ _ hw hk
    ·rw [r];exact ih _ _ _ _ _ hw hk
   ·obtain⟨f,args,r,hc⟩:=(o2 e).2 X w hw
    rw [r]
    refine Yi hc ?_
    rintro e2 w' ⟨v,rfl,hv,hw'⟩
    exact ih _ _ _ _ _ hw' (hn (v :: k) [] v (.inr ⟨hwt,.inr (.inl ⟨e,hv,rfl,rfl⟩)⟩))
   ·have r:=o3 e w
    have hk:=hn k [bk w.heap.size (L.cs i) (L.ty i)] (L.made i w.heap.size) (.inr ⟨hwt,.inr (.inr ⟨e,rfl,w.heap.size,rfl,rfl⟩)⟩)
    rw [r]
    exact ih _ _ _ _ _ (hM _ _ _ _ _ hw) hk
theorem qX (hP:∀listed k X Y a,X.Perm Y→Q listed k X a→Q listed k Y a){i:Nat}{oi:Oper}(hi:ops[i]? = some oi)(him:i < m)(hsel:∀(j:Nat) (o:Oper) cs b,ops[j]? = some o→o.op≠.select cs b) :
  ∀(n:Nat) (listed:Array Bool) (k:List Value) (X:List Ob) (a:Act),
   (∀j oj,ops[j]? = some oj→j≠i→listed.getD j true=false→(∀e∈oj.after,Region.binds md e=true→e.on≠i)→oi.apart ops oj=true) →
   (∃B:Nat→Bool,(∀j,B j=true→listed.getD j true=false∧∃oj,ops[j]? = some oj∧∃e∈oj.after,Region.binds md e=true∧(e.on=i∨B e.on=true)) ∧
    (gG oi=true→∀j oj,ops[j]? = some oj→gG oj=true→j≠i→listed.getD j true=false→B j=true)∧(∀j oj,ops[j]? = some oj→m≤j→B j=true)) →
   i∈Region.ready md ops listed→rO P ops L oi i k X a (fun k' X' a'=>oO P ops L md m Q n (listed.setIfInBounds i true) k' X' a')→oO P ops L md m Q (n+1) listed k X a:=by
 have notB:∀(listed:Array Bool) (B:Nat→Bool),(∀j,B j=true→listed.getD j true=false∧∃oj,ops[j]? = some oj∧∃e∈oj.after,Region.binds md e=true∧(e.on=i∨B e.on=true)) →
   i∈Region.ready md ops listed→∀j,j∈Region.ready md ops listed→(B j=false∧∀oj,ops[j]? = some oj→∀e∈oj.after,Region.binds md e=true→e.on≠i):=by
  intro listed B b1 hr j hj
  obtain⟨hjun,oj,hoj,hall⟩:=jD.1 hj
  have hiun:=(jD.1 hr).1
  have hnot:∀e∈oj.after,Region.binds md e=true→e.on≠i:=fun e he hb heq=>by
   have h1:=hall e he hb
   rw [heq] at h1
   rcases jq i listed.size with h' | h'
   ·simp [h'] at hiun h1;rw [hiun] at h1;cases h1
   ·simp [eU h'] at h1
  refine⟨?_,fun oj' hoj'=>?_⟩
  ·by_cases hb:B j=true
   ·obtain⟨_,o',ho',e,he,hbe,hon⟩:=b1 j hb
    obtain rfl:oj=o':=by rw [hoj] at ho';exact cO ho'
    have h1:=hall e he hbe
    rcases hon with hon | hon
    ·exact absurd hon (hnot e he hbe)
    ·have h0:=(b1 _ hon).1
     rcases jq e.on listed.size with h' | h'
     ·simp [h'] at h0 h1;rw [h0] at h1;cases h1
     ·simp [eU h'] at h1
   ·simpa using hb
  ·obtain rfl:oj=oj':=by rw [hoj] at hoj';exact cO hoj'
   exact hnot
 intro n
 induction n with
 | zero =>
  intro listed k X a _ ⟨B,b1,_,b3⟩ hr ⟨hok,H⟩
  refine⟨fun h=>(by rw [h] at hr;cases hr),fun j hj=>?_⟩
  by_cases hji:j=i
  ·subst hji
   exact⟨him,fun o ho=>(by obtain rfl:oi=o:=(by rw [hi] at ho;exact cO ho);exact⟨hok,H⟩)⟩
  ·obtain⟨k',D,v,hO⟩:=hok.out
   have h1:=(H k' D v hO).1 j (oN hj hji)
   obtain⟨_,oj,hoj,_⟩:=jD.1 hj
   have h2:=b3 j oj hoj h1
   rw [(notB listed B b1 hr j hj).1] at h2
   cases h2
 | succ n ih =>
  intro listed k X a hfree ⟨B,b1,b2,b3⟩ hr ⟨hok,H⟩
  refine⟨fun h=>(by rw [h] at hr;cases hr),fun j hj=>?_⟩
  by_cases hji:j=i
  ·subst hji
   exact⟨him,fun o ho=>(by obtain rfl:oi=o:=(by rw [hi] at ho;exact cO ho);exact⟨hok,H⟩)⟩
  ·obtain⟨hBj,hnot'⟩:=notB listed B b1 hr j hj
   have hjm:j < m:=by
    rcases jq j m with h' | h'
    ·exact h'
    ·obtain⟨_,oj,hoj,_⟩:=jD.1 hj
     have:=b3 j oj hoj h'
     rw [hBj] at this
     cases this
   refine⟨hjm,fun oj hoj=>?_⟩
   have hnot:=hnot' oj hoj
   have hjun:=(jD.1 hj).1
   have hap:=hfree j oj hoj hji hjun hnot
   obtain⟨p1,p2,p3⟩:=Xu hap
   have hsi:=fun cs b=>hsel i oi cs b hi
   have hsj:=fun cs b=>hsel j oj cs b hoj
   have hnc:gG oi=true→gG oj=false:=fun hc=>by
    by_cases hcj:gG oj=true
    ·have:=b2 hc j oj hoj hcj hji hjun
     rw [hBj] at this
     cases this
    ·simpa using hcj
   have hfree':∀m om,ops[m]? = some om→m≠i→(listed.setIfInBounds j true).getD m true=false →
     (∀e∈om.after,Region.binds md e=true→e.on≠i)→oi.apart ops om=true:=fun m om hm hmi hun hno=>by
    refine hfree m om hm hmi ?_ hno
    by_cases hjm:j=m
    ·subst hjm;exact hjun
    ·rw [iY true hjm] at hun;exact hun
   have hr':=oN hr (WV hji)
   -- what is known of j behind any outcome of i
   have hj2:∀k' D v,nH P ops L oi i k a k' D v→rO P ops L oj j k' (D ++ X) (a.put oi.dst v) (fun k'' X'' a''=>oO P ops L md m Q n ((listed.setIfInBounds i true).setIfInBounds j true) k'' X'' a'') :=
    fun k' D v hO=>((H k' D v hO).2 j (oN hj hji)).2 oj hoj
   have hsame:∀v,execOp a.eval oj=execOp (a.put oi.dst v).eval oj∧Region.wanted oj (yielded ops a.tmps)=Region.wanted oj (yielded ops (a.put oi.dst v).tmps):=fun v=>⟨(WQ oj hsj a oi.dst v p1).symm,(WO oj a oi.dst v p1).symm⟩
   have hokj:sV P ops L oj j k a:=by
    obtain⟨k',D,v,hO⟩:=hok.out
    have h1:=(hj2 k' D v hO).1.same (hsame v).1 (hsame v).2
    by_cases hc:gG oi=true
    ·exact h1.stage (hnc hc) k
    ·obtain⟨rfl,_⟩:=hO.stage (by simpa using hc) []
     exact h1
   refine⟨hokj,fun kj Dj u hOj=>?_⟩
   have hsi2:execOp (a.put oj.dst u).eval oi=execOp a.eval oi:=WQ oi hsi a oj.dst u p3
   have hwi2:Region.wanted oi (yielded ops (a.put oj.dst u).tmps)=Region.wanted oi (yielded ops a.tmps):=WO oi a oj.dst u p3
   have hstage:gG oi=true→kj=k:=fun hc=>(hOj.stage (hnc hc) []).1
   have hoki:sV P ops L oi i kj (a.put oj.dst u):=by
    by_cases hc:gG oi=true
    ·rw [hstage hc];exact hok.same hsi2 hwi2
    ·exact(hok.same hsi2 hwi2).stage (by simpa using hc) kj
   refine ih (listed.setIfInBounds j true) kj (Dj ++ X) (a.put oj.dst u) hfree' ⟨B,fun m hm=>?_,fun hc m om hom hcm hmi hun=>?_,b3⟩ hr' ⟨hoki,fun ki Di v hOi=>?_⟩
   ·obtain⟨c1,c2⟩:=b1 m hm
    refine⟨?_,c2⟩
    rw [iY true (by rintro rfl;rw [hm] at hBj;cases hBj)]
    exact c1
   ·refine b2 hc m om hom hcm hmi ?_
    by_cases hjm:j=m
    ·subst hjm;exact hjun
    ·rw [iY true hjm] at hun;exact hun
   ·have hOi':=hOi.same hsi2.symm hwi2.symm
    by_cases hc:gG oi=true
    ·obtain rfl:=hstage hc
     have h3:=(hj2 ki Di v hOi').2
     obtain⟨_,h4⟩:=(hOj.same (a':=a.put oi.dst v) (hsame v).1.symm (hsame v).2.symm).stage (hnc hc) ki
     have h5:=h3 ki Dj u h4
     rw [jG _ _ (WV hji),wE a v u p2] at h5
     refine nY hP _ _ _ _ _ _ ?_ h5
     rw [← bu,← bu]
     exact dY X lQ
    ·obtain⟨rfl,h4⟩:=hOi'.stage (by simpa using hc) k
     have h3:=(hj2 k Di v h4).2
     have h5:=h3 ki Dj u (hOj.same (a':=a.put oi.dst v) (hsame v).1.symm (hsame v).2.symm)
     rw [jG _ _ (WV hji),wE a v u p2] at h5
     refine nY hP _ _ _ _ _ _ ?_ h5
     rw [← bu,← bu]
     exact dY X lQ
theorem nG {t:Nat}{Q0:List Value→List Ob→Act→Prop}(hP:∀listed k X Y a,X.Perm Y→Q listed k X a→Q listed k Y a)(hs:Region.noSelect ops=true)(hb:((List.range m).all fun i=>sD md ops m i (pR md ops i))=true)
  (hQ:∀listed k X a,tail4 md ops t m listed=true→Q0 k X a→Q listed k X a) :
  ∀(l:List Oper) (i:Nat) (listed:Array Bool) (k:List Value) (X:List Ob) (a:Act),i+l.length=m→(∀j,j < l.length→l[j]? = ops[i+j]?) →
  (∀j,listed.getD j true=false→i≤j)→(∀j,i≤j→j < ops.size→listed.getD j true=false) →
  zB md ops m t l.length i listed=true→qi P ops L Q0 i k X l a→oO P ops L md m Q l.length listed k X a
 | [],i,listed,k,X,a,_,_,_,_,hB,h=>by
  simp only [List.length_nil,zB,aH,dX,dG] at hB
  exact⟨hB.1,hQ _ _ _ _ hB.2 h⟩
 | o :: l,i,listed,k,X,a,him,hl,hlo,hhi,hB,h=>by
  have h0:ops[i]? = some o:=by simpa using (hl 0 (by simp)).symm
  simp only [List.length_cons,zB,aH] at hB
  obtain⟨⟨hr,hf⟩,hB'⟩:=hB
  have hlt:i < ops.size:=(aX.1 h0).1
  have hil:i < m:=by simp at him;omega
  have hmz:i < listed.size:=by
   rcases jq i listed.size with h' | h'
   ·exact h'
   ·have:=hhi i (au _) hlt;simp [eU h'] at this
  obtain⟨c1,c2,c3⟩:=rM ((dX.1 hb) i (iw.2 hil))
  refine qX hP h0 hil (xP hs) l.length listed k X a (Xe h0 hf) ⟨fun j=>(pR md ops i).contains j,fun j hj=>?_,fun hc j oj hoj hcj hji hun=>c2 (by unfold mZ;rw [h0];exact hc) j oj hoj hcj (by have:=hlo j hun;omega),c3⟩ (by simpa using hr) ⟨h.1,fun k' D v hO=>?_⟩
  ·obtain⟨g1,oj,hoj,g2⟩:=c1 j hj
   exact⟨hhi j (by omega) (aX.1 hoj).1,oj,hoj,g2⟩
  ·refine nG hP hs hb hQ l (i+1) _ k' _ _ (by simp at him;omega) (fun j hj=>by have:=hl (j+1) (by simpa using hj);simpa [lN,oZ 1 j] using this) ?_ ?_ hB' (h.2 k' D v hO)
   ·intro j hj
    by_cases hjm:i=j
    ·subst hjm;simp [hmz] at hj
    ·rw [iY true hjm] at hj;have:=hlo j hj;omega
   ·intro j hj hjs
    rw [iY true (by omega)]
    exact hhi j (by omega) hjs
theorem sH {id:Nat}{Q':Exit→Act→World→Prop}{a:Act}{w:World}{l:List Oper}(L:Pl)(m:Nat)(hm:P.follows .mixedOrders=true)(hB:xh .any l.toArray m (l.length - m)=true)
  (hS:∀k X w,L.C k X w→L.S w)(hM:∀k X w cs ty,L.C k X w→L.C k (bk w.heap.size cs ty :: X) (w.alloc (.cells cs.toArray ty)))(hP:∀k X Y w,X.Perm Y→L.C k X w→L.C k Y w)(hC:L.C [] [] w.drew)
  (h:qi P l.toArray L (fun k X a'=>∀w',L.C k X w'→wpList P l.toArray Q' (l.drop m) a' w') 0 [] [] (l.take m) a):(Code.region id l.toArray true).wp P Q' a w:=by
 simp only [xh,aH,dG] at hB
 obtain⟨⟨⟨hs,hlx⟩,hb⟩,hsz⟩:=hB
 have hml:m≤l.length:=by simp at hsz;omega
 have htk:(l.take m).length=m:=by simp [hml]
 refine XI hm ?_
 have h1:=nG (P:=P) (L:=L) (md:=.any) (m:=m) (t:=l.length - m) (Q:=fun listed k X a'=>∀w',L.C k X w'→wpAny P .any l.toArray Q' (l.length - m) listed a' w')
  (fun listed k X Y a hp hq w' hw'=>hq w' (hP _ _ _ _ hp.symm hw')) hs hb
  (fun listed k X a ht hq w' hw'=>by
   have:=tu (P:=P) (md:=.any) (ops:=l.toArray) (Q':=Q') (l.drop m) m listed a w' (fun j=>by simp) (by simpa using ht) (hq w' hw')
   simpa using this)
  (l.take m) 0 (Array.replicate l.toArray.size false) [] [] a (by rw [htk];omega) (fun j hj=>by rw [eX];simp at hj ⊢;omega) (by simp) (by simp;intro j hj;simp [hj]) (by rw [htk];exact hlx) h
 have h2:=ng (Q':=Q') hS hM (fun listed k X a w' hw' hq=>hq w' hw') _ _ [] [] a _ hC h1
 have e:(l.take m).length+(l.length - m)=l.toArray.size:=by rw [htk];simp;omega
 rw [e] at h2
 exact h2
end
section
variable {P : Program} {ops : Array Oper} {L : Pl} {Q : List Value → List Ob → Act → Prop} {i : Nat} {k : List Value} {X : List Ob} {o : Oper} {rest : List Oper} {a : Act}
theorem vU {S:World→Prop} [hne:Nonempty (dS S)] {v v':Value}(h:jo P S o a v)(h':jo P S o a v'):v=v':=by
 obtain⟨x⟩:=hne
 rcases h x.w x.h with e | ⟨e,rfl⟩ <;> rcases h' x.w x.h with e' | ⟨e',rfl⟩
 ·rw [e] at e';simpa using e'
 ·rw [e] at e';simp at e'
 ·rw [e] at e';simp at e'
 ·rfl
theorem aK (hw:Region.wanted o (yielded ops a.tmps)=false)(h:qi P ops L Q (i+1) k X rest (a.put o.dst undef)):qi P ops L Q i k X (o :: rest) a:=by
 refine⟨fun h'=>absurd (hw.symm.trans h') (by decide),fun k' D v hO=>?_⟩
 rcases hO with ⟨_,rfl,rfl,rfl⟩ | ⟨h',_⟩
 ·exact h
 ·rw [hw] at h';cases h'
theorem aN [hne:Nonempty (dS L.S)] (hk:kindOf o=0)(hc:gG o=false)(h:∀K:Act→Prop,Shut (∀a,qi P ops L Q (i+1) k X rest a→K a)→wpQuiet P ops (fun w'=>∃x:dS L.S,w'=x.w) K [o] a):qi P ops L Q i k X (o :: rest) a:=by
 have h1:=h (qi P ops L Q (i+1) k X rest) (fun _ h=>h)
 unfold wpQuiet at h1
 split at h1
 ·rename_i hw
  obtain⟨v,h2,h3⟩:=h1
  have hv:jo P L.S o a v:=fun w hS=>by
   have h4:=h2 w ⟨⟨w,hS⟩,rfl⟩
   unfold Oper.quietAt at h4
   generalize hr:(execOp a.eval o).run P w=r at h4
   cases r with
   | halt x w'=>exact h4.elim
   | ok n w' =>
    cases n <;> simp only [Oper.quietUpon] at h4
    case value u=>obtain⟨rfl,rfl⟩:=h4;exact .inl rfl
    case skip=>obtain⟨rfl,rfl⟩:=h4;exact .inr ⟨rfl,rfl⟩
    case enter f args=>exact absurd hr (zo hc)
  refine⟨fun _=>⟨fun _=>⟨v,hv⟩,fun e=>absurd (hk.symm.trans e) (by decide),fun e=>absurd (hk.symm.trans e) (by decide)⟩,fun k' D v' hO=>?_⟩
  rcases hO with ⟨h',_⟩ | ⟨_,⟨_,hv',rfl,rfl⟩ | ⟨e,_⟩ | ⟨e,_⟩⟩
  ·rw [hw] at h';cases h'
  ·rw [← vU hv hv'];exact h3
  ·rw [hk] at e;cases e
  ·rw [hk] at e;cases e
 ·rename_i hw
  exact aK (by simpa using hw) h1
theorem dM {f:FuncId}{args:Array Value}(hw:Region.wanted o (yielded ops a.tmps)=true)(hk:kindOf o=1)(hx:∀w,(execOp a.eval o).run P w=.ok (.enter f args) w)(hV:∃v,L.V k v)
  (hC:∀X w,L.C k X w→Calls P f args w (fun e w'=>∃v,e=.returned v∧L.V k v∧L.C (v :: k) X w'))(h:∀v,L.V k v→qi P ops L Q (i+1) (v :: k) X rest (a.put o.dst v)):qi P ops L Q i k X (o :: rest) a:=by
 refine⟨fun _=>⟨fun e=>absurd (hk.symm.trans e) (by decide),fun _=>⟨hV,fun X w hw'=>⟨f,args,hx w,hC X w hw'⟩⟩,fun e=>absurd (hk.symm.trans e) (by decide)⟩,fun k' D v' hO=>?_⟩
 rcases hO with ⟨h',_⟩ | ⟨_,⟨e,_⟩ | ⟨_,hv,rfl,rfl⟩ | ⟨e,_⟩⟩
 ·rw [hw] at h';cases h'
 ·rw [hk] at e;cases e
 ·exact h _ hv
 ·rw [hk] at e;cases e
theorem rY (mk:Nat→Value)(cs:List Value)(ty:TypeId)(e1:L.made i=mk)(e2:L.cs i=cs)(e3:L.ty i=ty)(hw:Region.wanted o (yielded ops a.tmps)=true)(hk:kindOf o=2)
  (hx:∀w,(execOp a.eval o).run P w=.ok (.value (mk w.heap.size)) (w.alloc (.cells cs.toArray ty)))(h:∀g,qi P ops L Q (i+1) k (bk g cs ty :: X) rest (a.put o.dst (mk g))):qi P ops L Q i k X (o :: rest) a:=by
 subst e1 e2 e3
 refine⟨fun _=>⟨fun e=>absurd (hk.symm.trans e) (by decide),fun e=>absurd (hk.symm.trans e) (by decide),fun _=>hx⟩,fun k' D v' hO=>?_⟩
 rcases hO with ⟨h',_⟩ | ⟨_,⟨e,_⟩ | ⟨e,_⟩ | ⟨_,rfl,g,rfl,rfl⟩⟩
 ·rw [hw] at h';cases h'
 ·rw [hk] at e;cases e
 ·rw [hk] at e;cases e
 ·exact h g
theorem eH (h:Q k X a):qi P ops L Q i k X [] a:=h
end
def lC (B:Nat)(w0:World)(l:List Value→List Ob)(w:World):Prop:=∃k X,All B w0 (X ++ l k) w
abbrev U8 (B:Nat) (w0:World) (l:List Value→List Ob) (val:List Value→Value→Prop) (made:Nat→Nat→Value) (cs:Nat→List Value) (ty:Nat→TypeId):Pl:=⟨lC B w0 l,fun k X w=>All B w0 (X ++ l k) w,val,made,cs,ty⟩
theorem yX {P:Program}{id:Nat}{Q':Exit→Act→World→Prop}{a:Act}{w:World}{ls:List Oper}(B:Nat)(w0:World)(l:List Value→List Ob)(val:List Value→Value→Prop)(made:Nat→Nat→Value)(cs:Nat→List Value)(ty:Nat→TypeId)(m:Nat)
  (hm:P.follows .mixedOrders=true)(hB:xh .any ls.toArray m (ls.length - m)=true)(hC:All B w0 (l []) w)
  (h:qi P ls.toArray (U8 B w0 l val made cs ty) (fun k X a'=>∀w',All B w0 (X ++ l k) w'→wpList P ls.toArray Q' (ls.drop m) a' w') 0 [] [] (ls.take m) a):(Code.region id ls.toArray true).wp P Q' a w :=
 sH (U8 B w0 l val made cs ty) m hm hB (fun k X w h=>⟨k,X,h⟩) (fun k X w cs ty h=>h.sO cs ty) (fun k X Y w hp h=>h.perm (dY _ hp)) (hC.still ((ak _ _).drew)) h
end Go.Proofs.YtfelmdkeaacfeaaGreatDoor.W.RV
end
section
namespace Go.Proofs.YtfelmdkeaacfeaaGreatDoor.W
open Go.RowKit
def xH (data:List UInt8)(ix cnt:Int)(s:List UInt8):List UInt8 :=
 joinL (iF data) 0 ix.toNat ++ ik s ++ joinL (iF data) (ix+min cnt ((iF data).length - ix)).toNat (iF data).length
inductive Ce (M:List MN) (h:Nat) (mh:MN) (ix cnt:Int) (s:List UInt8):List MN→List Rc→Int→Prop
 | kind (hk:mh.kind < 3):Ce M h mh ix cnt s M [] 10
 | rng (hk:3≤mh.kind) (hr:ix < 0∨((iF mh.data).length:Int) < ix∨cnt < 0):Ce M h mh ix cnt s M [] 2
 | yes (hk:3≤mh.kind) (h0:0≤ix) (h1:ix≤((iF mh.data).length:Int)) (h2:0≤cnt) :
   Ce M h mh ix cnt s (M.set h { mh with data:=xH mh.data ix cnt s }) [⟨4,h,-1,-1,-1,ix,[],mh.data,false,min cnt ((iF mh.data).length - ix),(iF (ik s)).length⟩] 0
theorem Ha {Q g cap:Nat}{X:List MX}{w:World}(h:jC Q (.slice (some ⟨g,0,none⟩) X.length cap) X w)(hf:X.length≤100000){c:Nat}{mc:MN}(hc:lv (ms X) c=some mc)(hl:mc.data.length≤1000000)(ix cnt:Int)(h0:-1000≤ix)(h1:ix≤1000)(h2:-2000000≤cnt)(h3:cnt≤2000000)(s:List UInt8)(hs:s.length≤100000) :
  Calls Tryz.prog 47 #[.pointer (some ⟨Q,0,none⟩),.int .i64 (c:Int),.int .i64 ix,.int .i64 cnt,dA s] w (L6 Q g cap X w (Ce (ms X) c mc ix cnt s)):=by
 have c0:=h.W.ptr
 obtain⟨ck,_,_⟩:=h.W.FZ hc
 have lc:=lU hc
 obtain⟨x,hx,rfl,hg⟩:=qG hc
 have H0:=ae h
 have HX:=ae hx
 have HRp:=ae (fun wx=>pU s wx (by omega))
 have hrl:=DD s.length s (au _)
 have HPt:=ae (fun wx=>DJ x.m.data wx (by omega))
 have HPs:=ae (fun wx=>DJ (ik s) wx (by omega))
 have hpl:=PN x.m.data.length x.m.data (au _)
 have hpf:=bW List.length (Aw x.m.data.length x.m.data (au _))
 have HQ:=ae (fun wx (hb:Below w.heap.size w wx)=>(h.below hb).W.ptr)
 have HC3:=ae (fun wx (hb:Below w.heap.size w wx)=>(h.below hb).W.cell hx 3 (by omega))
 simp only [qZ,fQ,fP] at HC3
 clear h hc hx
 unfold dA at *
 by_cases hk:x.m.kind < 3
 ·have hb:decide (x.m.kind < 3)=true:=by simpa using hk
  go_enter Tryz.func47,Tryz.ntmps47
  go_wp2_with fail
  go_ret2
  exact⟨X,_,[],10,.kind hk,rfl,aG _ _ _ _,fU.refl H0.out (ak _ _)⟩
 have hb:decide (x.m.kind < 3)=false:=by simpa using hk
 have HK:=ae (show 3≤x.m.kind from by omega)
 have HRng:=ae (fun c2=>Ce.rng (M:=ms X) (h:=c) (mh:=x.m) (ix:=ix) (cnt:=cnt) (s:=s) HK.out c2)
 have HYes:=ae (fun c2 c3 c4=>Ce.yes (M:=ms X) (h:=c) (mh:=x.m) (ix:=ix) (cnt:=cnt) (s:=s) HK.out c2 c3 c4)
 generalize Ce (ms X) c x.m ix cnt s=RX at *
 have c3:=HC3.out _ (ak _ _)
 go_enter Tryz.func47,Tryz.ntmps47
 go_wp2_with fail
 refine(HPt.out _).mono ?_
 rintro e w1 ⟨pv1,rfl,hpo,hb1⟩
 obtain⟨pa,pc,rfl⟩:=bP hpo
 have HPO:=ae hpo
 clear hpo HPt
 unfold xH at HYes
 generalize hP:iF x.m.data=P at *
 generalize hPS:iF (ik s)=PS at *
 by_cases hneg:ix < 0
 ·have e0:decide (ix < 0)=true:=by simpa using hneg
  clear c0 c3 ck
  go_wp2_with fail
  go_ret2
  exact⟨X,_,[],2,HRng.out (.inl hneg),rfl,aG _ _ _ _,fU.refl H0.out hb1⟩
 have e0:decide (ix < 0)=false:=by simpa using hneg
 by_cases hrg:(P.length:Int) < ix
 ·have e1:decide ((P.length:Int) < ix)=true:=by simpa using hrg
  clear c0 c3 ck
  go_wp2_with fail
  go_ret2
  exact⟨X,_,[],2,HRng.out (.inr (.inl hrg)),rfl,aG _ _ _ _,fU.refl H0.out hb1⟩
 have e1:decide ((P.length:Int) < ix)=false:=by simpa using hrg
 by_cases hcn:cnt < 0
 ·have e2:decide (cnt < 0)=true:=by simpa using hcn
  clear c0 c3 ck
  go_wp2_with fail
  go_ret2
  exact⟨X,_,[],2,HRng.out (.inr (.inr hcn)),rfl,aG _ _ _ _,fU.refl H0.out hb1⟩
 have e2:decide (cnt < 0)=false:=by simpa using hcn
 clear c0 c3 ck
 have HY:=ae (HYes.out (by omega) (by omega) (by omega))
 obtain⟨i,rfl⟩:=CZ (a:=ix) (by omega)
 obtain⟨c1,hc1⟩:∃c1:Nat,(c1:Int)=min cnt ((P.length:Int) - (i:Int)):=⟨(min cnt ((P.length:Int) - (i:Int))).toNat,by omega⟩
 rw [← hc1] at HY
 have hc1b:i+c1≤P.length:=by omega
 have ht1:((i:Int)+(c1:Int)).toNat=i+c1:=by omega
 rw [ht1,Int.toNat_natCast] at HY
 have HC1:=ae hc1
 clear hc1 HYes HRng
 go_wp2_with fail
 refine(HRp.out _).mono ?_
 rintro e w2 ⟨rfl,hb2⟩
 have hB2:=aV hb1 hb2
 have hb12:=ae hb2
 rw [← HC1.out]
 have q0:=HQ.out _ hB2
 have q3:=HC3.out _ hB2
 have lq:=H0.out.W.blk.lt
 have lg:=jy H0.out.W.row (k:=g) rfl
 have lq2:=aO lq hB2.size
 have lg2:=aO lg hB2.size
 have y0:∀x1:dS (RV.lC w2.heap.size w2 (fun _=>[])),x1.w.cell? ⟨Q,0,none⟩=some (.slice (some ⟨g,0,none⟩) X.length cap):=fun x1=>by
  obtain⟨_,X,hx1⟩:=x1.h
  exact((oK hx1.below).1 _ _ lq2).trans q0
 have y3:∀x1:dS (RV.lC w2.heap.size w2 (fun _=>[])),x1.w.cell? ⟨g,c*7+3,none⟩=some (.string ⟨x.m.data.toArray⟩):=fun x1=>by
  obtain⟨_,X,hx1⟩:=x1.h
  exact((oK hx1.below).1 _ _ lg2).trans q3
 have hne:Nonempty (dS (RV.lC w2.heap.size w2 (fun _=>[]))):=⟨⟨w2,[],[],All.start w2⟩⟩
 clear hb1 hb2 q0 q3
 go_upto_region 8 with fail
 refine RV.yX w2.heap.size w2 (fun _=>[]) (fun _ v=>∃a c,v=.slice a PS.length c) (fun _ r=>.pointer (some ⟨r,0,none⟩)) (fun _=>[.int .i64 0,.int .i64 0,.int .i64 0,.int .i64 0,.int .i64 0,.int .i64 0,.string ⟨#[]⟩,.string ⟨#[]⟩,.bool false,.int .i64 0,.int .i64 0]) (fun _=>144) 16 (by kernel_rfl) (by kernel_rfl) (All.start w2) ?_
 simp only [mD,mr,l9,lZ]
 repeat (first
  | (refine RV.aN (by rfl) (by rfl) (fun K hK=>?_);go_big_quiet_step (fail);refine az ?_;refine hK.out _ ?_;clear hK K)
  | (refine RV.aK (by rfl) ?_;simp only [Act.put,dL,dK,dJ]))
 refine RV.dM (by rfl) (by rfl) (fun w=>by go_simp;exact⟨rfl,rfl⟩) ⟨_,none,0,rfl⟩ ?_ ?_
 ·intro Xo w3 h3
  refine(HPs.out w3).mono ?_
  rintro e w4 ⟨pv2,rfl,hpo2,hb4⟩
  obtain⟨pa2,pc2,rfl⟩:=bP hpo2
  exact⟨_,rfl,⟨_,_,rfl⟩,h3.still hb4⟩
 rintro v ⟨va,vc,rfl⟩
 simp only [Act.put,dL,dK,dJ]
 repeat (first
  | (refine RV.aN (by rfl) (by rfl) (fun K hK=>?_);go_big_quiet_step (fail);refine az ?_;refine hK.out _ ?_;clear hK K)
  | (refine RV.aK (by rfl) ?_;simp only [Act.put,dL,dK,dJ]))
 refine RV.rY (fun r=>.pointer (some ⟨r,0,none⟩)) [.int .i64 0,.int .i64 0,.int .i64 0,.int .i64 0,.int .i64 0,.int .i64 0,.string ⟨#[]⟩,.string ⟨#[]⟩,.bool false,.int .i64 0,.int .i64 0] 144 rfl rfl rfl (by rfl) (by rfl) (fun w=>by go_simp) ?_
 intro r
 simp only [Act.put,dL,dK,dJ]
 refine RV.eH ?_
 intro w5 hA5
 simp only [List.cons_append,List.nil_append,aT] at hA5
 have k5:dD w5 r (recC 0 0 0 0 0 0 [] [] false 0 0) 144:=hA5.head
 have hr:w2.heap.size≤r:=hA5.base _ (List.Mem.head _) r rfl
 have hB5:Below w2.heap.size w2 w5:=hA5.below
 obtain⟨⟨q0,q1,q2,q3,q4,q5,q6,q7,q8,q9,q10⟩,zf⟩:=DF k5
 clear hne y0 y3 hA5
 go_upto_region 9 with fail
 refine PL (G:=fun wx=>Code.wp _ _ _ _ wx) k5 _ _ _ _ _ _ _ _ _ _ _ ?_
 intro w6 k6 hch6
 clear q0 q1 q2 q3 q4 q5 q6 q7 q8 q9 q10 zf
 have hB6:Below w.heap.size w w6:=(hB2.trans (hB5.mono hB2.size)).trans (hch6.below (aQ hB2.size hB5.size) (fun k e=>by subst e;exact aQ hB2.size hr))
 have hr6:w.heap.size≤r:=aQ hB2.size hr
 have q0:=HQ.out _ hB6
 have q3:=HC3.out _ hB6
 have lq6:=aO lq hB6.size
 have lg6:=aO lg hB6.size
 have HK6:=ae k6
 have HB6:=ae hB6
 have HP6:Hid (w6.ownsRow 0 9 1 (.slice pa P.length pc) P.length (sC P)):=by
  have h1:Below w1.heap.size w1 w5:=hb12.out.trans (hB5.mono hb12.out.size)
  have h2:=bH (iD HPO.out (aZ _)) h1
  have h3:Own w6 9 1 (.slice pa P.length pc) P.length (sC P):=iO h2 (fun b hb=>hch6.block b (jy h2 hb) (fun e=>by
   obtain⟨cur,hcur⟩:=dF h2 hb
   subst e
   exact dw hcur k5 (by decide) rfl))
  exact ae h3
 clear k5 k6 hch6 hB6 hB5 hr
 have x0:∀x1:dS (jc w6),x1.w.cell? ⟨Q,0,none⟩=some (.slice (some ⟨g,0,none⟩) X.length cap):=fun x1=>((oK x1.h).1 _ _ lq6).trans q0
 have hne6:=gI w6
 have HJ1:=ae (fun wx (hb:Below w6.heap.size w6 wx)=>Jo P (.slice pa P.length pc) 0 0 i wx (bH HP6.out hb) (by omega) (by omega) (by omega))
 have HJ2:=ae (fun wx (hb:Below w6.heap.size w6 wx)=>Jo P (.slice pa P.length pc) 0 (i+c1) P.length wx (bH HP6.out hb) (by omega) (by omega) (by omega))
 rw [Int.natCast_add] at HJ2
 have hj1:=AX P 0 i
 have hj2:=AX P (i+c1) P.length
 generalize joinL P 0 i=t1 at *
 generalize joinL P (i+c1) P.length=t2 at *
 generalize ik s=s' at *
 have hwr:IntKind.i64.wrap ((i:Int)+(c1:Int))=(i:Int)+(c1:Int):=XR _ (by omega) (by omega)
 refine oP (fun k=>if k=0 then .string ⟨t1.toArray⟩ else .string ⟨t2.toArray⟩) 20 (by kernel_rfl) (by kernel_rfl) ?_
 simp only [mD,mr,l9,lZ]
 repeat (first
  | (refine aN (by rfl) (by rfl) (fun K hK=>?_);go_big_quiet_step (fail);refine az ?_;refine hK.out _ ?_;clear hK K)
  | (refine aK (by rfl) ?_;simp only [Act.put,dL,dK,dJ]))
 refine dM (.string ⟨t1.toArray⟩) rfl (by rfl) (by rfl) (fun w=>by go_simp;exact⟨rfl,rfl⟩) ?_ ?_
 ·intro Y wx hx
  refine(HJ1.out _ hx).mono ?_
  rintro e wz ⟨rfl,hw⟩
  subst wz
  exact⟨rfl,hx⟩
 simp only [Act.put,dL,dK,dJ]
 repeat (first
  | (refine aN (by rfl) (by rfl) (fun K hK=>?_);go_big_quiet_step (fail);refine az ?_;refine hK.out _ ?_;clear hK K)
  | (refine aK (by rfl) ?_;simp only [Act.put,dL,dK,dJ]))
 refine dM (.string ⟨t2.toArray⟩) rfl (by rfl) (by rfl) (fun w=>by go_simp;exact⟨rfl,rfl⟩) ?_ ?_
 ·intro Y wx hx
  refine(HJ2.out _ hx).mono ?_
  rintro e wz ⟨rfl,hw⟩
  subst wz
  exact⟨rfl,hx⟩
 simp only [Act.put,dL,dK,dJ]
 repeat (first
  | (refine aN (by rfl) (by rfl) (fun K hK=>?_);go_big_quiet_step (fail);refine az ?_;refine hK.out _ ?_;clear hK K)
  | (refine aK (by rfl) ?_;simp only [Act.put,dL,dK,dJ]))
 refine eH ?_
 intro w7 h7
 rw [pK,pK]
 generalize t1 ++ s' ++ t2=dat at *
 have hB7:=aV HB6.out h7
 have p3:=HC3.out _ hB7
 have hMd7:=H0.out.below hB7
 have pz:=hMd7.W.Ou (c*7+3)
 have k7:=HK6.out.below h7
 have hrl7:=k7.lt
 have HMd7:=ae hMd7
 have HB7:=ae hB7
 have HK7:=ae k7
 clear x0 hne6 q0 q3 h7 hMd7 hB7 k7
 go_upto_region 10 with fail
 have hp:=HMd7.out.U6 HX.out { x.m with data:=dat } 3 (.string ⟨dat.toArray⟩) (by omega) rfl rfl rfl
 have hk8:=HK7.out.setOther ⟨g,c*7+3,none⟩ (by show r≠g;omega) (.string ⟨dat.toArray⟩)
 have HP8:=ae ((fU.refl H0.out HB7.out).trans hp)
 have HK8:=ae hk8
 clear hp hk8 p3 pz
 generalize w7.setCell ⟨g,c*7+3,none⟩ (.string ⟨dat.toArray⟩)=w8 at *
 obtain⟨⟨b0,b1,b2,b3,b4,b5,b6,b7,b8,b9,b10⟩,zf8⟩:=sJ HK8.out
 go_wp2_with fail
 go_ret2
 refine⟨_,_,[⟨4,c,-1,-1,-1,i,[],x.m.data,false,c1,PS.length⟩],0,?_,rfl,Am w8 _ HP8.out.qU.size,HP8.out.still ((ak _ _).alloc (au _) _)⟩
 rw [uh]
 exact HY.out
theorem MF {data s:List UInt8}{ix cnt:Int}(hv:ik data=data)(h0:0≤ix)(h1:ix≤((iF data).length:Int))(h2:0≤cnt):Ap data ix cnt s=xH data ix cnt s:=by
 unfold Ap xH
 rw [oD,pY]
 have e1:oC data 0 ix=joinL (iF data) 0 ix.toNat:=by
  have:=Bj data hv 0 ix.toNat (by omega) (by omega)
  rw [show((ix.toNat:Nat):Int)=ix by omega] at this
  exact this
 have e2:oC data (ix+min cnt (((iF data).length:Int) - ix)) ((iF data).length:Int)=joinL (iF data) (ix+min cnt (((iF data).length:Int) - ix)).toNat (iF data).length:=by
  have:=Bj data hv (ix+min cnt (((iF data).length:Int) - ix)).toNat (iF data).length (by omega) (by omega)
  rw [show(((ix+min cnt (((iF data).length:Int) - ix)).toNat:Nat):Int)=ix+min cnt (((iF data).length:Int) - ix) by omega] at this
  exact this
 rw [e1,e2]
theorem Ox (P:List (List UInt8))(k:Nat):(P.drop k).flatten.length≤P.flatten.length:=by
 have:P.flatten=(P.take k).flatten ++ (P.drop k).flatten:=by rw [← nR,bG]
 rw [this,aA];omega
theorem FT {data s:List UInt8}{ix cnt:Int}(h0:0≤ix)(h1:ix≤((iF data).length:Int))(h2:0≤cnt):(xH data ix cnt s).length≤data.length+3*s.length:=by
 unfold xH
 have hj:(iF data).flatten=data:=Aw data.length data (au _)
 have hr:=DD s.length s (au _)
 generalize hb:(ix+min cnt (((iF data).length:Int) - ix)).toNat=b
 have hab:ix.toNat≤b:=by omega
 have e1:joinL (iF data) 0 ix.toNat=((iF data).take ix.toNat).flatten:=by unfold joinL;simp
 have e2:joinL (iF data) b (iF data).length=((iF data).drop b).flatten:=by unfold joinL;rw [dE]
 have e3:((iF data).drop b).flatten.length≤((iF data).drop ix.toNat).flatten.length:=by
  rw [show(iF data).drop b=((iF data).drop ix.toNat).drop (b - ix.toNat) by rw [qB];congr 1;omega]
  exact Ox _ _
 have e4:((iF data).take ix.toNat).flatten.length+((iF data).drop ix.toNat).flatten.length=data.length:=by
  rw [← aA,← nR,bG,hj]
 rw [e1,e2,aA,aA]
 omega
theorem Jh {data s:List UInt8}{ix cnt:Int}(hv:ik data=data):ik (xH data ix cnt s)=xH data ix cnt s:=by
 unfold xH
 exact vI _ _ (vI _ _ (BC data hv _ _) (FD s)) (BC data hv _ _)
theorem Ua (S:Tr)(σ : Nat→Nat)(i:Nat)(ix:Int)(old:List UInt8)(cnt size:Int):encR (vC S σ ⟨4,(i:Int),-1,-1,-1,ix,[],old,false,cnt,size⟩)=recC 4 (S.hd (σ i)) 0 0 0 ix [] old false cnt size:=by
 unfold vC
 simp only [Qr,A8]
 rfl
theorem Tw.rep {ex:Prop}{E:Nat→Prop}{c:Nat}{S S':Tr}{K:Nat→List Nat}{d:Nat→Nat}{M M':List MN}{σ : Nat→Nat}(W:Tw ex E c S K M σ)(T:iP c S K d){i:Nat}{m:MN}{n:Nd}(hi:lv M i=some m)(hn:S.at (σ i)=some n){ix cnt:Int}{s:List UInt8}{rs:List Rc}{en en':Int}{v:Value}{l:List (List Value)}
  (hm:Ce M i m ix cnt s M' rs en)(ht:uJ S (σ i) n ix cnt s S' v en' l)(hs:s.length≤60)(hc:c≤600) :
  en'=en∧l=rs.map (fun r=>encR (vC S σ r))∧iP (c+1) S' K d∧Tw ex E (c+1) S' K M' σ:=by
 obtain⟨n',hn',hkd,hnm,hdt,hat⟩:=W.node i m hi
 rw [hn] at hn';cases hn'
 have hma:=W.ma i m hi
 have T1:=T.mono (ed c)
 have W1:=W.mono (ed c)
 have hok:=T.nd _ n hn
 have hok1:=T1.nd _ n hn
 have hv:=W.Ef hi
 have hkk:=hok.kd
 have hval:(n.kind=3∨n.kind=4)→ik m.data=m.data:=fun h=>by rw [← hdt];exact(vH _).1 (hok.tx h).2.2
 cases ht with
 | kind h=>cases hm with
  | kind _=>exact⟨rfl,rfl,T1,W1⟩
  | rng hk _=>omega
  | yes hk _ _ _=>omega
 | rng hk h =>
  rw [oD,hdt] at h
  cases hm with
  | kind h2=>omega
  | rng _ _=>exact⟨rfl,rfl,T1,W1⟩
  | yes _ h3 h4 h5=>omega
 | long hk h =>
  cases hm with
  | kind h2=>omega
  | rng _ h3 =>
   unfold Ap at h
   have h6:=mO s
   have h4:=fun a b=>xR n.data a b
   have h7:=h4 0 ix
   have h8:=h4 (ix+min cnt ((Lib.runeCount ⟨n.data.toArray⟩:Int) - ix)) (Lib.runeCount ⟨n.data.toArray⟩:Int)
   have h9:=hok.dl
   simp only [aA] at h
   omega
  | yes _ h3 h4 h5 =>
   rw [hdt,MF (hval hk) h3 h4 h5] at h
   have:=FT (s:=s) h3 h4 h5
   have:=hok.dl
   rw [hdt] at this
   omega
 | yes v hk h0 h1 h2 =>
  rw [oD,hdt] at h1
  cases hm with
  | kind h3=>omega
  | rng _ h3=>omega
  | yes _ h3 h4 h5 =>
   have e:=MF (s:=s) (hval hk) h3 h4 h5
   have hml:=FT (s:=s) h3 h4 h5
   have hdl:=hok.dl
   rw [hdt] at hdl
   refine⟨rfl,?_,T1.put hn rfl rfl rfl rfl rfl rfl ?_,W1.put hi hn hkd hnm (by show Ap n.data ix cnt s=xH m.data ix cnt s;rw [hdt];exact e) hat rfl rfl hv (by show m.attrs.length≤_;omega)⟩
   ·rw [fE,jZ,Ua,oD,oD,hdt,pY]
   ·refine⟨hok1.kd,fun e2=>(by have e2:n.kind=2:=e2;omega),fun e2=>⟨(hok1.tx hk).1,(hok1.tx hk).2.1,?_⟩,fun e2=>(by have e2:n.kind=1:=e2;omega),hok1.at_,hok1.nd,hok1.al,?_,hok1.nl⟩
    ·show Lib.validD (Ap n.data ix cnt s)=true
     rw [hdt,e]
     exact(vH _).2 (Jh (hval hk))
    ·show(Ap n.data ix cnt s).length≤_
     rw [hdt,e]
     omega

end Go.Proofs.YtfelmdkeaacfeaaGreatDoor.W
end
