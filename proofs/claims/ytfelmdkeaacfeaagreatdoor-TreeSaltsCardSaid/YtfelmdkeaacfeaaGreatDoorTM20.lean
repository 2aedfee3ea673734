/- Texts joined: Mnew McpP TwC AtS. -/
import Derived.Test.YtfelmdkeaacfeaaGreatDoorTM19
import Derived.Test.YtfelmdkeaacfeaaGreatDoorTM17
import Derived.Test.YtfelmdkeaacfeaaGreatDoorTM18
import Derived.Maps.Own
import Derived.Maps.Views
import Derived.StringKeys
set_option maxRecDepth 100000
set_option maxHeartbeats 40000000
set_option linter.unusedVariables false
set_option linter.unusedSimpArgs false
section
namespace Go.Proofs.YtfelmdkeaacfeaaGreatDoor.W
open Go.RowKit
theorem mmake_any {Q g cap:Nat}{X:List MX}{w:World}(h:MdAt Q (.slice (some ⟨g,0,none⟩) X.length cap) X w)(hX:X.length≤100000)(kind:Int)(hk0:0≤kind)(hk1:kind≤100)(name data:List UInt8)(hn:name.length≤1000)(hd:data.length≤1000)(v:Value)(al:List Atr)(hv:Own w 92 2 v al.length (attrC al))(hal:al.length≤100)(has:∀a∈al,a.1.length≤1000∧a.2.length≤1000) :
  Calls Tryz.prog 41 #[.pointer (some ⟨Q,0,none⟩),.int .i64 kind,strV name,strV data,v] w (MMakR Q g cap X w kind name data al):=by
 by_cases hk:kind=2
 ·subst hk
  exact mmake_el h hX name data hn v al hv hal has
 ·exact mmake_tx h hX kind hk hk0 hk1 name data hd v al
theorem mnew_any (w:World) :
  Calls Tryz.prog 40 #[] w fun e w'=>∃Q g cap X,e=.returned (.pointer (some ⟨Q,0,none⟩))∧ms X=[newMN 1 [] [] []]∧All w.heap.size w [mdO Q (.slice (some ⟨g,0,none⟩) X.length cap) X] w':=by
 go_enter Tryz.func40,Tryz.ntmps40
 go_wp2_with fail
 go_ret
 refine⟨w.heap.size+1,w.heap.size,1,[⟨newMN 1 [] [] [],.slice none 0 0,.slice none 0 0⟩],by simp,rfl,?_⟩
 have k1:=Blk.new w (mxC ⟨newMN 1 [] [] [],.slice none 0 0,.slice none 0 0⟩) 81
 have k2:=Blk.new (w.alloc (.cells (mxC ⟨newMN 1 [] [] [],.slice none 0 0,.slice none 0 0⟩).toArray 81)) [.slice (some ⟨w.heap.size,0,none⟩) 1 1] 84
 have hb:Below w.heap.size w ((w.alloc (.cells (mxC ⟨newMN 1 [] [] [],.slice none 0 0,.slice none 0 0⟩).toArray 81)).alloc (.cells #[.slice (some ⟨w.heap.size,0,none⟩) 1 1] 84)):=((Below.refl _ _).alloc (Nat.le_refl _) _).alloc (by simp) _
 have hs:(w.alloc (.cells (mxC ⟨newMN 1 [] [] [],.slice none 0 0,.slice none 0 0⟩).toArray 81)).heap.size=w.heap.size+1:=by simp
 rw [hs] at k2
 have k1':=k1.alloc (.cells #[.slice (some ⟨w.heap.size,0,none⟩) 1 1] 84)
 have hm:MdAt (w.heap.size+1) (.slice (some ⟨w.heap.size,0,none⟩) 1 1) [⟨newMN 1 [] [] [],.slice none 0 0,.slice none 0 0⟩] ((w.alloc (.cells (mxC ⟨newMN 1 [] [] [],.slice none 0 0,.slice none 0 0⟩).toArray 81)).alloc (.cells #[.slice (some ⟨w.heap.size,0,none⟩) 1 1] 84)):=by
  refine⟨⟨k2,?_,?_,?_⟩,?_,?_⟩
  ·have:=own_at (n:=1) (size:=7) k1' rfl (by omega)
   simpa [rows] using this
  ·intro x hx;simp at hx;subst hx;exact World.ownsRow_nil _ _ _ _
  ·intro x hx;simp at hx;subst hx;exact World.ownsRow_nil _ _ _ _
  ·intro i j x y b hij hi hj hb
   have h1:=List.mem_of_getElem? hi
   simp at h1;subst h1;cases hb
  ·intro i j x y b hij hi hj hb
   have h1:=List.mem_of_getElem? hi
   simp at h1;subst h1;cases hb
 refine⟨?_,by simp,?_,hb,by simp;omega⟩
 ·intro o ho;simp at ho;subst ho;exact hm
 ·intro o ho k hk
  simp at ho;subst ho
  rcases hk with rfl | hk | ⟨y,hy,hk⟩
  ·omega
  ·cases hk;exact Nat.le_refl _
  ·simp at hy;subst hy;rcases hk with hk | hk <;> cases hk
def nd0:MN:=⟨0,[],[],[],none,[],false⟩
def ndM (M:List MN)(i:Nat):MN:=(M[i]?).getD nd0
theorem ndM_lv {M:List MN}{i:Nat}{m:MN}(h:lv M i=some m):ndM M i=m:=by unfold ndM;rw [(lv_at h).1];rfl
def psi (l:List Nat)(k x:Nat):Nat:=k+l.idxOf x
def cpN (M:List MN)(ψ : Nat→Nat)(top:Nat)(par:Option Nat)(x:Nat):MN:=⟨(ndM M x).kind,(ndM M x).name,(ndM M x).attrs,(ndM M x).data,if x=top then par else(ndM M x).par.map ψ,(ndM M x).kids.map ψ,false⟩
def addK (M:List MN)(o:Option Nat)(k:Nat):List MN:=match o with
 | none=>M
 | some p=>M.mapIdx fun i m=>if i=p then { m with kids:=m.kids ++ [k] } else m
theorem addK_len (M:List MN)(o:Option Nat)(k:Nat):(addK M o k).length=M.length:=by cases o <;> simp [addK]
theorem addK_app (A B:List MN)(p k:Nat)(hp:A.length=p)(b:MN):addK (A ++ b :: B) (some p) k=A ++ { b with kids:=b.kids ++ [k] } :: B:=by
 subst hp
 simp only [addK]
 apply List.ext_getElem?
 intro i
 rw [List.getElem?_mapIdx]
 rcases Nat.lt_trichotomy i A.length with h | h | h
 ·rw [List.getElem?_append_left h,List.getElem?_append_left h]
  have:¬i=A.length:=by omega
  simp only [this,if_false]
  cases A[i]? <;> rfl
 ·subst h
  rw [List.getElem?_append_right (Nat.le_refl _),List.getElem?_append_right (Nat.le_refl _),Nat.sub_self]
  simp
 ·rw [List.getElem?_append_right (by omega),List.getElem?_append_right (by omega)]
  obtain⟨t,ht⟩:∃t,i - A.length=t+1:=⟨i - A.length - 1,by omega⟩
  rw [ht,List.getElem?_cons_succ,List.getElem?_cons_succ]
  have:¬i=A.length:=by omega
  simp only [this,if_false]
  cases B[t]? <;> rfl
theorem addK_set {M:List MN}{p k:Nat}{m:MN}(h:M[p]? = some m):addK M (some p) k=M.set p { m with kids:=m.kids ++ [k] }:=by
 simp only [addK]
 apply List.ext_getElem?
 intro i
 have hl:=(List.getElem?_eq_some_iff.1 h).1
 rw [List.getElem?_mapIdx,List.getElem?_set]
 by_cases e:p=i
 ·subst e
  rw [if_pos rfl,if_pos hl,h];simp
 ·have e':¬i=p:=fun h=>e h.symm
  rw [if_neg e]
  simp only [e',if_false,Option.map_id']
section
variable {M : List MN} {D : Nat → Nat}
theorem MW.wlk_kid (hW:MW M D):∀(f i x:Nat) (mi mx:MN),lv M i=some mi→128 - D i≤f→x∈wlk (kM M) f i→lv M x=some mx→∀k∈mx.kids,k∈wlk (kM M) f i
 | 0,i,x,mi,mx,hi,hf,hx,hmx,k,hk=>by
  simp [wlk] at hx;subst hx
  obtain⟨mk,h1,h2⟩:=hW.kid x mx k hmx hk
  obtain⟨mp,h3,_,h4⟩:=hW.par k mk x h1 h2
  have:=hW.low k mk h1
  omega
 | f+1,i,x,mi,mx,hi,hf,hx,hmx,k,hk=>by
  rw [wlk,List.mem_cons] at hx ⊢
  right
  rcases hx with rfl | hx
  ·exact List.mem_flatMap.2 ⟨k,by rw [kM_of hmx];exact hk,by cases f <;> simp [wlk]⟩
  ·obtain⟨q,hq,hx⟩:=List.mem_flatMap.1 hx
   rw [kM_of hi] at hq
   obtain⟨mq,h1,h2⟩:=hW.kid i mi q hi hq
   obtain⟨_,_,_,h4⟩:=hW.par q mq i h1 h2
   exact List.mem_flatMap.2 ⟨q,by rw [kM_of hi];exact hq,hW.wlk_kid f q x mq mx h1 (by omega) hx hmx k hk⟩
theorem MW.wlk_par (hW:MW M D):∀(f i x:Nat) (mi mx:MN),lv M i=some mi→x∈wlk (kM M) f i→x≠i→lv M x=some mx→∃p,mx.par=some p∧p∈wlk (kM M) f i
 | 0,i,x,mi,mx,hi,hx,hne,hmx=>by simp [wlk] at hx;exact absurd hx hne
 | f+1,i,x,mi,mx,hi,hx,hne,hmx=>by
  rw [wlk,List.mem_cons] at hx
  rcases hx with rfl | hx
  ·exact absurd rfl hne
  ·obtain⟨q,hq,hx⟩:=List.mem_flatMap.1 hx
   have hq':=hq
   rw [kM_of hi] at hq
   obtain⟨mq,h1,h2⟩:=hW.kid i mi q hi hq
   by_cases e:x=q
   ·subst e
    rw [hmx] at h1;cases h1
    exact⟨i,h2,by simp [wlk]⟩
   ·obtain⟨p,h3,h4⟩:=hW.wlk_par f q x mq mx h1 hx e hmx
    exact⟨p,h3,by rw [wlk];exact List.mem_cons_of_mem _ (List.mem_flatMap.2 ⟨q,hq',h4⟩)⟩
theorem MW.wlk_live (hW:MW M D):∀(f i:Nat) (m:MN),lv M i=some m→∀y∈wlk (kM M) f i,∃my,lv M y=some my
 | 0,i,m,hi,y,hy=>by simp [wlk] at hy;subst hy;exact⟨m,hi⟩
 | f+1,i,m,hi,y,hy=>by
  rw [wlk,List.mem_cons] at hy
  rcases hy with rfl | hy
  ·exact⟨m,hi⟩
  ·obtain⟨k,hk,hy⟩:=List.mem_flatMap.1 hy
   rw [kM_of hi] at hk
   obtain⟨mk,h1,_⟩:=hW.kid i m k hi hk
   exact hW.wlk_live f k mk h1 y hy
theorem MW.wlk_eq (hW:MW M D){f i:Nat}{m:MN}(hi:lv M i=some m)(hf:128 - D i=f):wlk (kM M) f i=i :: m.kids.flatMap (wlk (kM M) (f - 1)):=by
 cases f with
 | zero =>
  have hk0:m.kids=[]:=by
   cases hk:m.kids with
   | nil=>rfl
   | cons k t =>
    obtain⟨mk,hmk,hpk⟩:=hW.kid i m k hi (by rw [hk];simp)
    obtain⟨mi,hmi,_,hd⟩:=hW.par k mk i hmk hpk
    have:=hW.low k mk hmk
    omega
  rw [hk0];rfl
 | succ f =>
  show i :: (kM M i).flatMap (wlk (kM M) f)=_
  rw [kM_of hi];rfl
theorem idx_app_left {l r:List Nat}{x:Nat}(h:x∈l):(l ++ r).idxOf x=l.idxOf x:=by
 rw [List.idxOf_append,if_pos h]
theorem idx_app_right {l r:List Nat}{x:Nat}(h:x∉l):(l ++ r).idxOf x=r.idxOf x+l.length:=by
 rw [List.idxOf_append,if_neg h]
theorem psi_kid (hW:MW M D)(hN:∀f i m,lv M i=some m→(wlk (kM M) f i).Nodup){f i j q k x:Nat}{m:MN}(hi:lv M i=some m)(hf:128 - D i=f)(hq:m.kids[j]? = some q)(hx:x∈wlk (kM M) (f - 1) q) :
  psi (wlk (kM M) f i) k x=psi (wlk (kM M) (f - 1) q) (k+1+((m.kids.take j).flatMap (wlk (kM M) (f - 1))).length) x:=by
 have hnd:=hN f i m hi
 have hE:=hW.wlk_eq hi hf
 have hsplit:m.kids=m.kids.take j ++ q :: m.kids.drop (j+1):=by
  have hj:=(List.getElem?_eq_some_iff.1 hq).1
  have:m.kids.drop j=q :: m.kids.drop (j+1):=by
   rw [List.drop_eq_getElem_cons hj]
   congr 1
   exact(List.getElem?_eq_some_iff.1 hq).2
  rw [← this,List.take_append_drop]
 rw [hE] at hnd ⊢
 generalize wlk (kM M) (f - 1)=W at *
 have e2:m.kids.flatMap W=(m.kids.take j).flatMap W ++ (W q ++ (m.kids.drop (j+1)).flatMap W):=by
  conv=>lhs;rw [hsplit]
  rw [List.flatMap_append,List.flatMap_cons]
 rw [e2] at hnd ⊢
 rw [List.nodup_cons,List.nodup_append] at hnd
 obtain⟨h1,h2,h3,h4⟩:=hnd
 have hxi:¬i=x:=fun e=>by
  subst e
  exact h1 (by rw [List.mem_append,List.mem_append];exact .inr (.inl hx))
 have hxl:x∉(m.kids.take j).flatMap W:=fun h=>h4 x h x (List.mem_append_left _ hx) rfl
 unfold psi
 rw [List.idxOf_cons]
 have:(i == x)=false:=beq_eq_false_iff_ne.2 hxi
 rw [this,idx_app_right hxl,idx_app_left hx]
 simp only [cond_false]
 omega
theorem psi_top {l:List Nat}(k i:Nat):psi (i :: l) k i=k:=by unfold psi;simp
theorem wlk_head (K:Nat→List Nat)(f i:Nat):∃r,wlk K f i=i :: r:=by cases f <;> exact⟨_,rfl⟩
theorem cp_kid (hW:MW M D)(hN:∀f i m,lv M i=some m→(wlk (kM M) f i).Nodup){f i j q k:Nat}{par:Option Nat}{m:MN}(hi:lv M i=some m)(hf:128 - D i=f)(hq:m.kids[j]? = some q) :
  (wlk (kM M) (f - 1) q).map (cpN M (psi (wlk (kM M) (f - 1) q) (k+1+((m.kids.take j).flatMap (wlk (kM M) (f - 1))).length)) q (some k))=(wlk (kM M) (f - 1) q).map (cpN M (psi (wlk (kM M) f i) k) i par):=by
 have hqm:=List.mem_of_getElem? hq
 obtain⟨mq,hmq,hpq⟩:=hW.kid i m q hi hqm
 obtain⟨mi,hmi,_,hd⟩:=hW.par q mq i hmq hpq
 have hlow:=hW.low q mq hmq
 have hnd:=hN f i m hi
 rw [hW.wlk_eq hi hf,List.nodup_cons] at hnd
 refine List.map_congr_left (fun x hx=>?_)
 have hP:∀y,y∈wlk (kM M) (f - 1) q→psi (wlk (kM M) (f - 1) q) (k+1+((m.kids.take j).flatMap (wlk (kM M) (f - 1))).length) y=psi (wlk (kM M) f i) k y:=fun y hy=>(psi_kid hW hN hi hf hq hy).symm
 obtain⟨mx,hmx⟩:=hW.wlk_live (f - 1) q mq hmq x hx
 have hxi:x≠i:=fun e=>hnd.1 (List.mem_flatMap.2 ⟨q,hqm,e ▸ hx⟩)
 unfold cpN
 rw [ndM_lv hmx]
 congr 1
 ·rw [if_neg hxi]
  by_cases e:x=q
  ·subst e
   rw [hmq] at hmx;cases hmx
   rw [if_pos rfl,hpq,hW.wlk_eq hi hf]
   show some k=some (psi _ k i)
   rw [psi_top]
  ·rw [if_neg e]
   obtain⟨p,h1,h2⟩:=hW.wlk_par (f - 1) q x mq mx hmq hx e hmx
   rw [h1]
   show some _=some _
   rw [hP p h2]
 ·refine List.map_congr_left (fun y hy=>hP y ?_)
  exact hW.wlk_kid (f - 1) q x mq mx hmq (by omega) hx hmx y hy
end
theorem MdAt.putK {Q g cap i:Nat}{X:List MX}{w w5:World}{x:MX}(h:MdAt Q (.slice (some ⟨g,0,none⟩) X.length cap) X w)(hi:X[i]? = some x)(hc:Chg (fun k=>x.kv.ownBlock=some k) w w5)(v:Value)(kl:List Nat)(ho:Own w5 3 1 v kl.length (kC kl))
  (hv:v.ownBlock=x.kv.ownBlock∨∀b,v.ownBlock=some b→w.heap.size≤b) :
  MdOut Q (.slice (some ⟨g,0,none⟩) X.length cap) X w (.slice (some ⟨g,0,none⟩) (X.set i { x with kv:=v,m:={ x.m with kids:=kl } }).length cap) (X.set i { x with kv:=v,m:={ x.m with kids:=kl } }) (w5.setCell ⟨g,i*7+5,none⟩ v):=by
 have hil:=(List.getElem?_eq_some_iff.1 hi).1
 have hmi:=List.mem_of_getElem? hi
 obtain⟨cg,hg⟩:=own_blk h.W.row (b:=g) rfl
 have hgl:=lt_of_block hg
 have hxa:∀b,x.kv.ownBlock=some b→∃cur,w.heap[b]? = some (.cells cur 3 (0,0)):=fun b hb=>own_blk (h.W.kid x hmi) hb
 have hgx:x.kv.ownBlock≠some g:=fun e=>by
  obtain⟨cur,hcur⟩:=hxa g e
  rw [hg] at hcur;cases hcur
 have hg5:w5.heap[g]? = w.heap[g]?:=hc.block g hgl hgx
 have hAv:∀b,v.ownBlock=some b→b≠g:=fun b hb e=>by
  subst e
  rcases hv with e | e
  ·exact hgx (e ▸ hb)
  ·have:=e _ hb;omega
 have hov:Own (w5.setCell ⟨g,i*7+5,none⟩ v) 3 1 v kl.length (kC kl):=own_kept ho (fun b hb=>Below.heap_setCell _ _ _ _ (hAv b hb))
 have hmem:∀y∈X.set i { x with kv:=v,m:={ x.m with kids:=kl } },y={ x with kv:=v,m:={ x.m with kids:=kl } }∨∃k,k≠i∧X[k]? = some y:=fun y hy=>by
  obtain⟨k,hk⟩:=List.mem_iff_getElem?.1 hy
  rcases X_get hi k y hk with ⟨_,e⟩ | ⟨e,e2⟩
  ·exact .inl e
  ·exact .inr ⟨k,e,e2⟩
 have hneK:∀y∈X,∀b,y.av.ownBlock=some b→x.kv.ownBlock≠some b:=fun y hy b hb e=>by
  obtain⟨c1,h1⟩:=hxa b e
  obtain⟨c2,h2⟩:=own_blk (h.W.att y hy) hb
  rw [h1] at h2;cases h2
 refine⟨⟨⟨?_,?_,?_,?_⟩,?_,?_⟩,?_,?_⟩
 ·have hQ:=h.W.blk
  rw [List.length_set]
  refine hQ.kept ((Below.heap_setCell _ _ _ _ (fun e=>?_)).trans (hc.block Q hQ.lt (fun e=>?_)))
  ·have e2:w.heap[Q]? = _:=hQ
   rw [show Q=g from e,hg] at e2;cases e2
  ·obtain⟨cur,hcur⟩:=hxa Q e
   have e2:w.heap[Q]? = _:=hQ
   rw [hcur] at e2;cases e2
 ·rw [List.length_set,rows_field mxC_len X i 5 x { x with kv:=v,m:={ x.m with kids:=kl } } v hi (by omega) rfl]
  have h5:Own w5 81 7 (.slice (some ⟨g,0,none⟩) X.length cap) X.length (rows mxC X):=own_kept h.W.row (fun b hb=>by cases hb;exact hg5)
  exact own_set h5 (i*7+5) v
 ·intro y hy
  have hk':∃z∈X,y.av=z.av∧y.m.attrs=z.m.attrs:=by
   rcases hmem y hy with rfl | ⟨k,hk,hy⟩
   ·exact⟨x,hmi,rfl,rfl⟩
   ·exact⟨y,List.mem_of_getElem? hy,rfl,rfl⟩
  obtain⟨z,hz,e1,e2⟩:=hk'
  rw [e1,e2]
  have hoz:=h.W.att z hz
  refine own_kept hoz (fun b hb=>?_)
  obtain⟨cur,hcur⟩:=own_blk hoz hb
  refine(Below.heap_setCell _ _ _ _ (fun e3=>?_)).trans (hc.block b (lt_of_block hcur) (hneK z hz b hb))
  rw [show b=g from e3,hg] at hcur
  cases hcur
 ·intro y hy
  rcases hmem y hy with rfl | ⟨k,hk,hy⟩
  ·exact hov
  ·have hym:=List.mem_of_getElem? hy
   have hoy:=h.W.kid y hym
   refine own_kept hoy (fun b hb=>?_)
   obtain⟨cur,hcur⟩:=own_blk hoy hb
   refine(Below.heap_setCell _ _ _ _ (fun e2=>?_)).trans (hc.block b (lt_of_block hcur) (fun e2=>h.apK i k x y b (fun e=>hk e.symm) hi hy e2 hb))
   rw [show b=g from e2,hg] at hcur
   cases hcur
 ·intro a c p q b hac hp hq hb
  have back:∀(k:Nat) (y:MX),(X.set i { x with kv:=v,m:={ x.m with kids:=kl } })[k]? = some y→∃z,X[k]? = some z∧y.av=z.av:=fun k y hk=>by
   rcases X_get hi k y hk with ⟨rfl,rfl⟩ | ⟨_,e⟩
   ·exact⟨x,hi,rfl⟩
   ·exact⟨y,e,rfl⟩
  obtain⟨z1,h1,e1⟩:=back a p hp
  obtain⟨z2,h2,e2⟩:=back c q hq
  rw [e2]
  exact h.apA a c z1 z2 b hac h1 h2 (e1 ▸ hb)
 ·intro a c p q b hac hp hq hb
  have fresh:∀y∈X,∀b,y.kv.ownBlock=some b→b < w.heap.size:=fun y hy b hb=>own_lt (h.W.kid y hy) hb
  rcases X_get hi a p hp with ⟨rfl,rfl⟩ | ⟨e1,hp'⟩
  ·rcases X_get hi c q hq with ⟨e2,_⟩ | ⟨e2,hq⟩
   ·exact absurd e2.symm hac
   ·intro e3
    have hb':v.ownBlock=some b:=hb
    rcases hv with e | e
    ·rw [e] at hb';exact h.apK a c x q b hac hi hq hb' e3
    ·have:=e b hb';have:=fresh q (List.mem_of_getElem? hq) b e3;omega
  ·rcases X_get hi c q hq with ⟨rfl,rfl⟩ | ⟨e2,hq⟩
   ·intro e3
    have hb':v.ownBlock=some b:=e3
    rcases hv with e | e
    ·rw [e] at hb';exact h.apK a c p x b hac hp' hi hb hb'
    ·have:=e b hb';have:=fresh p (List.mem_of_getElem? hp') b hb;omega
   ·exact h.apK a c p q b hac hp' hq hb
 ·exact(hc.mono (G:=mdF Q (.slice (some ⟨g,0,none⟩) X.length cap) X) (fun k _ e=>.inr (.inr ⟨x,hmi,.inr e⟩))).setCell ⟨g,i*7+5,none⟩ (fun _=>.inr (.inl rfl)) v
 ·intro k hk
  rcases hk with rfl | hk | ⟨y,hy,hk⟩
  ·exact .inl (.inl rfl)
  ·exact .inl (.inr (.inl hk))
  ·rcases hmem y hy with rfl | ⟨k',_,hy⟩
   ·rcases hk with hk | hk
    ·exact .inl (.inr (.inr ⟨x,hmi,.inl hk⟩))
    ·have hk':v.ownBlock=some k:=hk
     rcases hv with e | e
     ·exact .inl (.inr (.inr ⟨x,hmi,.inr (e ▸ hk')⟩))
     ·exact .inr (e k hk')
   ·exact .inl (.inr (.inr ⟨y,List.mem_of_getElem? hy,hk⟩))
theorem NdOk.same {c:Nat}{n n':Nd}(h:NdOk c n)(h1:n'.kind=n.kind)(h2:n'.name=n.name)(h3:n'.attrs=n.attrs)(h4:n'.data=n.data):NdOk c n' :=
 ⟨by rw [h1];exact h.kd,by rw [h1,h2,h4];exact h.el,by rw [h1,h2,h3,h4];exact h.tx,by rw [h1,h2,h3,h4];exact h.dc,by rw [h3];exact h.at_,by rw [h3];exact h.nd,by rw [h3];exact h.al,by rw [h4];exact h.dl,by rw [h2];exact h.nl⟩
theorem CpD.two {S K d S' K' d' i KJ P r}(C:CpD S K d S' K' d' i KJ P r){q:Nat}(hq:(S'.at q).isSome=true)(hn:¬(S.at q).isSome=true):∃y∈P,q=r y∧K' q=(KJ y).map r:=by
 rcases C.cov q hq with h | ⟨y,hy,rfl⟩
 ·exact absurd h hn
 ·exact⟨y,hy,rfl,C.kn y hy⟩
theorem CpD.old_kid {S K d S' K' d' i KJ P r}(C:CpD S K d S' K' d' i KJ P r)(hJ:∀x∈P,∀k∈KJ x,k∈P){x q:Nat}(hx:(S.at x).isSome=true)(h:x∈K' q):(S.at q).isSome=true∧x∈K q:=by
 have hq:=(C.lk.kin q x h).1
 by_cases e:(S.at q).isSome=true
 ·exact⟨e,by rw [← (C.old q e).2.1];exact h⟩
 ·obtain⟨y,hy,rfl,hk⟩:=C.two hq e
  rw [hk] at h
  obtain⟨k,hk,e2⟩:=List.mem_map.1 h
  have:=(C.new k (hJ y hy k hk)).1
  rw [e2] at this
  rw [this] at hx;cases hx
theorem TrOk.copied {c:Nat}{S:Tr}{K:Nat→List Nat}{d:Nat→Nat}{S' K' d' i KJ P r}(T:TrOk c S K d)(C:CpD S K d S' K' d' i KJ P r)(hJ:∀x∈P,∀k∈KJ x,k∈P∧k∈K x)(hz:∀x∈P,x≠0):TrOk c S' K' d':=by
 have back:∀x n',S'.at x=some n'→S.at x=some n'∨(S.at x=none∧∃y n,y∈P∧x=r y∧S.at y=some n∧n'.kind=n.kind∧n'.name=n.name∧n'.attrs=n.attrs∧n'.data=n.data):=fun x n' hx=>by
  cases e:S.at x with
  | some n =>
   rw [← (C.old x (by rw [e];rfl)).1,hx] at e
   exact .inl e.symm
  | none =>
   obtain⟨y,hy,rfl,_⟩:=C.two (q:=x) (by rw [hx];rfl) (by rw [e];decide)
   obtain⟨_,n,n2,h1,h2,h3⟩:=C.new y hy
   rw [hx] at h2;cases h2
   exact .inr ⟨rfl,y,n,hy,rfl,h1,h3⟩
 have hz0:(S.at 0).isSome=true:=by obtain⟨n,hn,_⟩:=T.doc;rw [hn];rfl
 refine⟨C.lk,fun x n' hx=>?_,fun p np hp=>?_,C.fr,C.frnd,by rw [C.root,C.hd];exact T.root,?_,fun x n' hx h0=>?_,fun p h=>?_⟩
 ·rcases back x n' hx with h | ⟨_,y,n,hy,rfl,h1,h2,h3,h4,h5⟩
  ·exact T.nd x n' h
  ·exact(T.nd y n h1).same h2 h3 h4 h5
 ·rcases back p np hp with h | ⟨h0,y,n,hy,rfl,h1,h2,_⟩
  ·rw [(C.old p (by rw [h];rfl)).2.1]
   have hin:∀q m,q∈K p→S'.at q=some m→S.at q=some m:=fun q m hq hm=>by
    rw [(C.old q (T.lk.kin p q hq).2).1] at hm;exact hm
   rcases T.fam p np h with h | h | ⟨h6,h7,h8⟩
   ·exact .inl h
   ·exact .inr (.inl h)
   ·exact .inr (.inr ⟨h6,fun q m hq hm=>h7 q m hq (hin q m hq hm),fun q q' m m' a1 a2 a3 a4=>h8 q q' m m' a1 a2 (hin q m a1 a3) (hin q' m' a2 a4)⟩)
  ·have hnk:=T.other y n h1 (hz y hy)
   rcases T.fam y n h1 with h | h | ⟨h,_⟩
   ·refine .inl ?_
    rw [C.kn y hy]
    have:KJ y=[]:=List.eq_nil_iff_forall_not_mem.2 fun k hk=>by have:=(hJ y hy k hk).2;rw [h] at this;cases this
    rw [this];rfl
   ·exact .inr (.inl (h2.trans h))
   ·exact absurd h hnk
 ·obtain⟨n,hn,hk⟩:=T.doc
  exact⟨n,by rw [(C.old 0 hz0).1];exact hn,hk⟩
 ·rcases back x n' hx with h | ⟨_,y,n,hy,rfl,h1,h2,_⟩
  ·exact T.other x n' h h0
  ·rw [h2];exact T.other y n h1 (hz y hy)
 ·exact T.nodoc p (C.old_kid (fun x hx k hk=>(hJ x hx k hk).1) hz0 h).2
def cpK (M:List MN)(ψ : Nat→Nat)(KM:Nat→List Nat)(top:Nat)(x:Nat):MN:=⟨(ndM M x).kind,(ndM M x).name,(ndM M x).attrs,(ndM M x).data,if x=top then none else(ndM M x).par.map ψ,(KM x).map ψ,false⟩
def sExt (n:Nat)(σ : Nat→Nat)(l:List Nat)(j:Nat):Nat:=if j < n then σ j else l.getD (j - n) 0
theorem lv_app_old {M L:List MN}{j:Nat}(h:j < M.length):lv (M ++ L) j=lv M j:=by
 unfold lv;rw [List.getElem?_append_left h]
theorem lv_app_new {M L:List MN}{j:Nat}(h:M.length≤j):lv (M ++ L) j=lv L (j - M.length):=by
 unfold lv;rw [List.getElem?_append_right h]
theorem psi_at {l:List Nat}(hn:l.Nodup){t x:Nat}(h:l[t]? = some x)(k:Nat):psi l k x=k+t:=by
 unfold psi
 have hx:=List.mem_of_getElem? h
 have h1:l[l.idxOf x]? = some x:=by
  have:=List.idxOf_lt_length_of_mem hx
  rw [List.getElem?_eq_getElem this,List.getElem_idxOf]
 have:=(List.getElem?_inj (List.idxOf_lt_length_of_mem hx) hn).1 (h1.trans h.symm)
 omega
theorem Tw.copied {ex:Prop}{E:Nat→Prop}{c:Nat}{S:Tr}{K:Nat→List Nat}{d:Nat→Nat}{M:List MN}{σ : Nat→Nat}{S' K' d' KJ r}(W:Tw ex E c S K M σ)(L:Lk S K d){i:Nat}{P:List Nat}{KM:Nat→List Nat}
  (hP:∀x∈P,∃mx,lv M x=some mx)(hnd:P.Nodup)(hcl:∀x∈P,∀k∈KM x,k∈P∧k≠i∧∃mk,lv M k=some mk∧mk.par=some x)(hpar:∀x∈P,x≠i→∃p∈P,(ndM M x).par=some p∧x∈KM p)
  (C:CpD S K d S' K' d' (σ i) KJ (P.map σ) r)(hKJ:∀x∈P,KJ (σ x)=(KM x).map σ)(hE:∀x∈P,¬E (r (σ x)))(hf:M.length+P.length≤10000) :
  Tw ex E c S' K' (M ++ P.map (cpK M (psi P M.length) KM i)) (sExt M.length σ (nxS P.length S.fl)):=by
 have hsl:nxS P.length S.fl=P.map (fun x=>r (σ x)):=by
  have:=C.sl
  rw [List.map_map,List.length_map] at this
  exact this.symm
 have hold:∀{j m},lv M j=some m→sExt M.length σ (nxS P.length S.fl) j=σ j:=fun {j m} h=>by unfold sExt;rw [if_pos (lv_live ⟨m,h⟩)]
 have hnew:∀{t x},P[t]? = some x→sExt M.length σ (nxS P.length S.fl) (M.length+t)=r (σ x):=fun {t x} h=>by
  unfold sExt
  rw [if_neg (by omega),hsl,List.getD_eq_getElem?_getD,List.getElem?_map,show M.length+t - M.length=t by omega,h];rfl
 have hψ : ∀{x},x∈P→sExt M.length σ (nxS P.length S.fl) (psi P M.length x)=r (σ x):=fun {x} hx=>by
  obtain⟨t,ht⟩:=List.mem_iff_getElem?.1 hx
  rw [psi_at hnd ht];exact hnew ht
 have hlive:∀{j m},lv M j=some m→(S.at (σ j)).isSome=true:=fun {j m} h=>by obtain⟨n,hn,_⟩:=W.node j m h;rw [hn];rfl
 have hup:∀{j m},lv M j=some m→lv (M ++ P.map (cpK M (psi P M.length) KM i)) j=some m:=fun {j m} h=>by rw [lv_app_old (lv_live ⟨m,h⟩)];exact h
 have hupN:∀{t x},P[t]? = some x→lv (M ++ P.map (cpK M (psi P M.length) KM i)) (M.length+t)=some (cpK M (psi P M.length) KM i x):=fun {t x} h=>by
  rw [lv_app_new (by omega),show M.length+t - M.length=t by omega]
  exact lv_of (by rw [List.getElem?_map,h];rfl) rfl
 have hupψ : ∀{x},x∈P→lv (M ++ P.map (cpK M (psi P M.length) KM i)) (psi P M.length x)=some (cpK M (psi P M.length) KM i x):=fun {x} hx=>by
  obtain⟨t,ht⟩:=List.mem_iff_getElem?.1 hx
  rw [psi_at hnd ht];exact hupN ht
 have cases':∀{j m},lv (M ++ P.map (cpK M (psi P M.length) KM i)) j=some m→lv M j=some m∨∃t x,P[t]? = some x∧x∈P∧j=M.length+t∧m=cpK M (psi P M.length) KM i x:=fun {j m} h=>by
  by_cases e:j < M.length
  ·rw [lv_app_old e] at h;exact .inl h
  ·rw [lv_app_new (by omega)] at h
   obtain⟨h1,_⟩:=lv_at h
   rw [List.getElem?_map,Option.map_eq_some_iff] at h1
   obtain⟨x,hx,e2⟩:=h1
   exact .inr ⟨j - M.length,x,hx,List.mem_of_getElem? hx,by omega,e2.symm⟩
 have hnl:∀{x},x∈P→S.at (r (σ x))=none:=fun {x} hx=>(C.new (σ x) (List.mem_map.2 ⟨x,hx,rfl⟩)).1
 have hJP:∀y∈P.map σ,∀k∈KJ y,k∈P.map σ:=fun y hy k hk=>by
  obtain⟨x,hx,rfl⟩:=List.mem_map.1 hy
  rw [hKJ x hx] at hk
  obtain⟨z,hz,rfl⟩:=List.mem_map.1 hk
  exact List.mem_map.2 ⟨z,(hcl x hx z hz).1,rfl⟩
 refine⟨fun j m hj=>?_,fun j m hj=>?_,fun j k mj mk hj hk e=>?_,?_,fun j m p hj hp=>?_,fun p mp k hp hk=>?_,fun j m hj hp q=>?_,fun y hy=>?_,fun j m hj=>?_,fun j m hj=>?_,by rw [List.length_append,List.length_map];exact hf⟩
 ·rcases cases' hj with h | ⟨t,x,ht,hx,rfl,rfl⟩
  ·obtain⟨n,hn,rest⟩:=W.node j m h
   exact⟨n,by rw [hold h,(C.old _ (hlive h)).1];exact hn,rest⟩
  ·obtain⟨mx,hmx⟩:=hP x hx
   obtain⟨n,hn,h1,h2,h3,h4⟩:=W.node x mx hmx
   obtain⟨_,n1,n',a1,a2,a3,a4,a5,a6⟩:=C.new (σ x) (List.mem_map.2 ⟨x,hx,rfl⟩)
   rw [hn] at a1;cases a1
   refine⟨n',by rw [hnew ht];exact a2,?_⟩
   unfold cpK
   rw [ndM_lv hmx]
   exact⟨a3.trans h1,a4.trans h2,a6.trans h3,fun e=>a5.trans (h4 e)⟩
 ·rcases cases' hj with h | ⟨t,x,ht,hx,rfl,rfl⟩
  ·rw [hold h,(C.old _ (hlive h)).2.1,W.kids j m h]
   refine List.map_congr_left fun k hk=>?_
   obtain⟨mk,h1,_⟩:=W.kid j m k h hk
   exact(hold h1).symm
  ·rw [hnew ht,C.kn (σ x) (List.mem_map.2 ⟨x,hx,rfl⟩),hKJ x hx]
   show((KM x).map σ).map r=((KM x).map (psi P M.length)).map _
   rw [List.map_map,List.map_map]
   refine List.map_congr_left fun k hk=>?_
   exact(hψ (hcl x hx k hk).1).symm
 ·rcases cases' hj with h | ⟨t,x,ht,hx,rfl,rfl⟩ <;> rcases cases' hk with h' | ⟨t',x',ht',hx',rfl,rfl⟩
  ·rw [hold h,hold h'] at e;exact W.inj j k mj mk h h' e
  ·rw [hold h,hnew ht'] at e
   have:=hlive h
   rw [e,hnl hx'] at this;cases this
  ·rw [hold h',hnew ht] at e
   have:=hlive h'
   rw [← e,hnl hx] at this;cases this
  ·rw [hnew ht,hnew ht'] at e
   have e1:=C.inj (σ x) (List.mem_map.2 ⟨x,hx,rfl⟩) (σ x') (List.mem_map.2 ⟨x',hx',rfl⟩) e
   obtain⟨m1,g1⟩:=hP x hx
   obtain⟨m2,g2⟩:=hP x' hx'
   have e2:=W.inj x x' m1 m2 g1 g2 e1
   subst e2
   have:=(List.getElem?_inj (List.getElem?_eq_some_iff.1 ht).1 hnd).1 (ht.trans ht'.symm)
   omega
 ·obtain⟨z,m0,hz⟩:=W.zero
  exact⟨(hold hz).trans z,m0,hup hz⟩
 ·rcases cases' hj with h | ⟨t,x,ht,hx,rfl,rfl⟩
  ·obtain⟨mp,h1,h2⟩:=W.par j m p h hp
   exact⟨mp,hup h1,h2⟩
  ·simp only [cpK] at hp
   by_cases e:x=i
   ·rw [if_pos e] at hp;cases hp
   ·rw [if_neg e] at hp
    obtain⟨q,hq,h1,h2⟩:=hpar x hx e
    rw [h1] at hp;cases hp
    refine⟨_,hupψ hq,?_⟩
    show M.length+t∈(KM q).map (psi P M.length)
    exact List.mem_map.2 ⟨x,h2,psi_at hnd ht _⟩
 ·rcases cases' hp with h | ⟨t,x,ht,hx,rfl,rfl⟩
  ·obtain⟨mk,h1,h2⟩:=W.kid p mp k h hk
   exact⟨mk,hup h1,h2⟩
  ·obtain⟨z,hz,rfl⟩:=List.mem_map.1 (show k∈(KM x).map (psi P M.length) from hk)
   obtain⟨h1,h2,mz,h3,h4⟩:=hcl x hx z hz
   refine⟨_,hupψ h1,?_⟩
   simp only [cpK]
   rw [if_neg h2,ndM_lv h3,h4,← psi_at hnd ht];rfl
 ·rcases cases' hj with h | ⟨t,x,ht,hx,rfl,rfl⟩
  ·rw [hold h]
   exact fun hq=>W.top j m h hp q (C.old_kid hJP (hlive h) hq).2
  ·rw [hnew ht]
   simp only [cpK] at hp
   by_cases e:x=i
   ·rw [e];exact C.top q
   ·rw [if_neg e] at hp
    obtain⟨q,hq,h1,h2⟩:=hpar x hx e
    rw [h1] at hp;cases hp
 ·by_cases e:(S.at y).isSome=true
  ·rcases W.cover y e with h | ⟨j,m,h1,h2⟩
   ·exact .inl h
   ·exact .inr ⟨j,m,hup h1,(hold h1).trans h2⟩
  ·obtain⟨z,hz,rfl,_⟩:=C.two hy e
   obtain⟨x,hx,rfl⟩:=List.mem_map.1 hz
   exact .inr ⟨_,_,hupψ hx,hψ hx⟩
 ·rcases cases' hj with h | ⟨t,x,ht,hx,rfl,rfl⟩
  ·rw [hold h];exact W.off j m h
  ·rw [hnew ht];exact hE x hx
 ·rcases cases' hj with h | ⟨t,x,ht,hx,rfl,rfl⟩
  ·exact W.ma j m h
  ·obtain⟨mx,hmx⟩:=hP x hx
   unfold cpK
   rw [ndM_lv hmx]
   exact W.ma x mx hmx
theorem zeroB (w:World):(zeroValue 4).run Tryz.prog w=.ok (.bool false) w:=by kernel_rfl
noncomputable abbrev pB:Value→Option (DataW Unit×List MemPlace):=plainElem Tryz.prog 4
theorem plainElem_bool_inv {P:Program}{e:TypeId}(he:P.underlying e=some .bool){v:Value}{z:DataW Unit×List MemPlace}(h:plainElem P e v=some z):∃c,v=.bool c∧z=(.lit (.bool c),[]):=by
 unfold plainElem at h
 rw [he] at h
 cases v <;> simp at h
 exact⟨_,rfl,h.symm⟩
theorem lookup_bool {w:World}{b n:Nat}{D:DataW Unit}(h:w.ownsMap Tryz.prog 9 pB b n D)(s:ByteArray)(hs:s.size≤maxLen):∃c,(Instr.lookup 168 (.map (some b)) (.string s) false).run Tryz.prog w=.ok (.bool c) w∧D.atKey (.string s.data.toList) (.lit (.bool false))=.lit (.bool c):=by
 obtain⟨v,ps,hrun,hv⟩:=h.lookup (Maps.string_keyed Tryz.underlying9) Tryz.underlying168 (zeroB w) (plainElem_bool Tryz.underlying4 false) (WideMaps.keyOf_string_mk Tryz.underlying9 hs)
 obtain⟨c,rfl,hc⟩:=plainElem_bool_inv Tryz.underlying4 hv
 simp only [Prod.mk.injEq] at hc
 exact⟨c,hrun,hc.1⟩
theorem update_bool {w:World}{b n:Nat}{D:DataW Unit}(h:w.ownsMap Tryz.prog 9 pB b n D)(hn:n≤1000)(s:ByteArray)(hs:s.size≤maxLen):∃w',(Instr.mapUpdate 168 (.map (some b)) (.string s) (.bool true)).run Tryz.prog w=.ok () w'∧w'.ownsMap Tryz.prog 9 pB b (n+1) (D.put (.string s.data.toList) (.lit (.bool true)))∧w.grownBy w' (some b) :=
 h.update (Maps.string_keyed Tryz.underlying9) Tryz.underlying168 (by unfold maxLen;omega) (WideMaps.keyOf_string_mk Tryz.underlying9 hs) (plainElem_bool Tryz.underlying4 true)
theorem ownsMap_heap {w w':World}{b n:Nat}{D:DataW Unit}(h:w.ownsMap Tryz.prog 9 pB b n D)(e:w'.heap[b]? = w.heap[b]?):w'.ownsMap Tryz.prog 9 pB b n D:=by
 obtain⟨es,clock,h1,h2⟩:=h
 exact⟨es,clock,e.trans h1,h2⟩
theorem ownsMap_below {w w':World}{b n:Nat}{D:DataW Unit}(h:w.ownsMap Tryz.prog 9 pB b n D)(hb:Below w.heap.size w w'):w'.ownsMap Tryz.prog 9 pB b n D:=ownsMap_heap h (hb.block b h.lt)
def Nmd (al:List Atr)(i:Nat)(D:DataW Unit):Prop:=Maps.IsMap D∧∀s:List UInt8,D.atKey (.string s) (.lit (.bool false))=.lit (.bool (decide (s∈(al.take i).map (·.1))))
theorem Nmd.zero (al:List Atr):Nmd al 0 (.map []):=⟨Maps.isMap_empty,fun s=>by simp [DataW.atKey]⟩
theorem Nmd.put {al:List Atr}{i:Nat}{D:DataW Unit}(h:Nmd al i D){y:Atr}(hy:al[i]? = some y):Nmd al (i+1) (D.put (.string y.1) (.lit (.bool true))):=by
 refine⟨h.1.put _ _,fun s=>?_⟩
 have e:(al.take (i+1)).map (·.1)=(al.take i).map (·.1) ++ [y.1]:=by rw [List.take_add_one,hy];simp
 rw [e]
 by_cases hs:s=y.1
 ·subst hs
  rw [Maps.atKey_put_same h.1 (by trivial)]
  simp
 ·rw [Maps.atKey_put_other (by intro e2;exact hs (by cases e2;rfl)),h.2 s]
  simp [hs]
def AtL (w:World)(al:List Atr)(iv:Value)(wr:World):Prop :=
 ∃(i:Nat) (D:DataW Unit),i≤al.length∧iv=.int .i64 (i:Int)∧NmsOk al i∧wr.ownsMap Tryz.prog 9 pB w.heap.size i D∧Nmd al i D∧Below w.heap.size w wr
theorem attrs_any (al:List Atr)(hal:al.length≤100)(has:∀a∈al,a.1.length≤1000∧a.2.length≤1000)(v:Value)(w:World)(hT:Laid w)(hv:Own w 91 2 v al.length (attrC al)) :
  Calls Tryz.prog 87 #[v] w fun e w'=>e=.returned (.bool (namesB al))∧Below w.heap.size w w':=by
 have hmm:=@run_makeMap Tryz.prog
 have HHd:=Lib.hid (fun(a:Atr) (ha:a∈al) wx (hx:Below w.heap.size w wx)=>attrName_b a.1 (by have:=(has a ha).1;omega) wx (hT.below hx))
 have HSz:=Lib.hid (fun(a:Atr) (ha:a∈al)=>(show(⟨a.1.toArray⟩:ByteArray).size≤maxLen from by have:=(has a ha).1;unfold maxLen;rw [bsz];omega))
 obtain⟨va0,vc0,rfl⟩:=own_shape hv
 have HVc:=Lib.hid (fun(j:Nat) (y:Atr) (hy:al[j]? = some y) wx (hb:Below w.heap.size w wx)=>(show ∃ga,va0=some ⟨ga,0,none⟩∧ga < w.heap.size∧wx.cell? ⟨ga,j*2,none⟩=some (.string ⟨y.1.toArray⟩)∧wx.cell? ⟨ga,j*2+1,none⟩=some (.string ⟨y.2.toArray⟩) from by
  have hl:=(List.getElem?_eq_some_iff.1 hy).1
  obtain⟨ga,hga⟩:∃g,va0=some ⟨g,0,none⟩:=by
   rcases hv.2 with ⟨e,e2⟩ | ⟨g,cap,cur,e,_⟩
   ·omega
   ·simp only [Value.slice.injEq] at e;exact⟨g,e.1⟩
  subst hga
  have ho:=own_belowM hv hb
  have h1:=own_news ho (2*j) _ (attrC_at al j y hy).1
  have h2:=own_news ho (2*j+1) _ (attrC_at al j y hy).2
  rw [Go.WideShapes.add_plain,Nat.zero_add] at h1 h2
  exact⟨ga,rfl,own_lt hv rfl,by rw [Nat.mul_comm];exact h1,by rw [Nat.mul_comm j];exact h2⟩))
 clear hv has hT
 go_enter Tryz.func87,Tryz.ntmps87
 go_wp2_with fail
 go_loopw [9] (fun iv wr=>AtL w al iv wr) (fun iv _=>al.length - intN iv)
 case atStart=>exact⟨0,.map [],by omega,rfl,fun j y hj=>absurd hj (by omega),World.ownsMap_made _ _ _ _,Nmd.zero al,(Below.refl _ _).alloc (Nat.le_refl _) _⟩
 case round =>
  obtain⟨i,D,hi,rfl,hnm,hown,hnd,hbr⟩:=hrel
  have HNm:=Lib.hid hnm
  have HOr:=Lib.hid hown
  have HBr:=Lib.hid hbr
  have HNd:=Lib.hid hnd
  clear hnm hown hnd hbr
  by_cases hil:i < al.length
  ·obtain⟨y,hy⟩:∃y,al[i]? = some y:=⟨_,List.getElem?_eq_getElem hil⟩
   have hym:=List.mem_of_getElem? hy
   obtain⟨ga,rfl,hga,cn,cv⟩:=HVc.out i y hy _ HBr.out
   have HY:=Lib.hid hy
   have HYm:=Lib.hid hym
   clear hy hym
   go_wp2_with fail
   have hb1:Below wr.heap.size wr (wr.alloc (.cells #[.string ⟨y.1.toArray⟩,.string ⟨y.2.toArray⟩] 91)):=(Below.refl _ _).alloc (Nat.le_refl _) _
   have hbx:=bthen HBr.out hb1
   have k1:=Blk.new wr [.string ⟨y.1.toArray⟩,.string ⟨y.2.toArray⟩] 91
   refine(HHd.out y HYm.out _ hbx).mono ?_
   rintro e w4 ⟨rfl,hb4⟩
   have HB4:=Lib.hid (bthen hbx hb4)
   have k4:=Blk.below k1 hb4
   have HO4:=Lib.hid (ownsMap_below (ownsMap_below HOr.out hb1) hb4)
   have hne:wr.heap.size≠w.heap.size:=by have:=HOr.out.lt;omega
   clear hb4 cn cv HOr HBr hb1 hbx k1
   have c0:=k4.cell 0
   simp only [List.getElem?_cons_zero] at c0
   have K4:=Lib.hid k4
   clear k4
   have hsz:=HSz.out y HYm.out
   cases hhd:headB y.1
   ·have HN:=Lib.hid (namesB_no1 HY.out hhd)
    clear hhd
    go_wp2_with fail
    go_ret
    exact⟨by rw [HN.out];rfl,HB4.out⟩
   have HHx:=Lib.hid hhd
   clear hhd
   obtain⟨c,hrun,hat⟩:=lookup_bool HO4.out ⟨y.1.toArray⟩ hsz
   have hat2:=HNd.out.2 y.1
   rw [show(⟨y.1.toArray⟩:ByteArray).data.toList=y.1 from rfl] at hat
   rw [hat] at hat2
   cases c
   ·obtain⟨w5,hst,ho5,hg5⟩:=update_bool HO4.out (by omega) ⟨y.1.toArray⟩ hsz
    have HAt:=Lib.hid hat2
    have HO5:=Lib.hid ho5
    have HB5:=Lib.hid (show Below w.heap.size w w5 from⟨hg5.os.trans HB4.out.os,hg5.tape.trans HB4.out.tape,hg5.output.trans HB4.out.output,by have:=HB4.out.size;have:=hg5.size;omega,fun k hk=>(hg5.block k (by have:=HB4.out.size;omega) (by simp;omega)).trans (HB4.out.block k hk)⟩)
    have c5:w5.cell? ⟨wr.heap.size,0,none⟩=_:=(K4.out.kept (hg5.block _ K4.out.lt (by simpa using hne))).cell 0
    simp only [List.getElem?_cons_zero] at c5
    clear hat hat2 ho5 hg5
    go_wp2_with fail
    refine⟨⟨i+1,_,by omega,by simp,?_,HO5.out,HNd.out.put HY.out,HB5.out⟩,by simp only [intN];omega⟩
    intro j z hj hz
    by_cases e:j=i
    ·subst e
     rw [HY.out] at hz;cases hz
     refine⟨HHx.out,fun k z hk hz e=>?_⟩
     have:=HAt.out
     simp only [DataW.lit.injEq,Lit.bool.injEq] at this
     have hm:y.1∈(al.take j).map (·.1):=List.mem_map.2 ⟨z,List.mem_of_getElem? (by rw [List.getElem?_take,if_pos hk];exact hz),e⟩
     exact of_decide_eq_false this.symm hm
    ·exact HNm.out j z (by omega) hz
   ·have HAt:=Lib.hid hat2
    clear hat hat2
    go_wp2_with fail
    go_ret
    have hm:y.1∈(al.take i).map (·.1):=by
     have:=HAt.out
     simp only [DataW.lit.injEq,Lit.bool.injEq] at this
     exact of_decide_eq_true this.symm
    obtain⟨z,hz,hzy⟩:=List.mem_map.1 hm
    obtain⟨k,hk⟩:=List.mem_iff_getElem?.1 hz
    rw [List.getElem?_take] at hk
    by_cases hki:k < i
    ·rw [if_pos hki] at hk
     exact⟨by rw [namesB_no2 HY.out hk hki hzy];rfl,HB4.out⟩
    ·rw [if_neg hki] at hk;cases hk
  ·obtain rfl:i=al.length:=by omega
   have hn:=namesB_yes HNm.out
   go_wp2_with fail
   go_ret
   exact⟨by rw [hn];rfl,HBr.out⟩
end Go.Proofs.YtfelmdkeaacfeaaGreatDoor.W
end
