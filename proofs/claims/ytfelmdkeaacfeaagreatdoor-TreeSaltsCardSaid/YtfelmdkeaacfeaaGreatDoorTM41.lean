/- Texts joined: DoP WkJ WkT RegX. -/
import Derived.Test.YtfelmdkeaacfeaaGreatDoorTM37
import Derived.Test.YtfelmdkeaacfeaaGreatDoorTM40
import Derived.Test.YtfelmdkeaacfeaaGreatDoorTM27
import Derived.Test.YtfelmdkeaacfeaaGreatDoorTM29
import Derived.OrdersIn
import Derived.TacticsIn
import Derived.OwnWalkIn
set_option maxRecDepth 100000
set_option maxHeartbeats 40000000
set_option linter.unusedVariables false
set_option linter.unusedSimpArgs false
section
namespace Go.Proofs.YtfelmdkeaacfeaaGreatDoor.W
open Go.RowKit
theorem flat_congr {f g:Nat→List Nat}:∀{l:List Nat},(∀k∈l,f k=g k)→l.flatMap f=l.flatMap g
 | [],_=>rfl
 | k :: l,h=>by rw [List.flatMap_cons,List.flatMap_cons,h k (by simp),flat_congr (fun q hq=>h q (by simp [hq]))]
theorem wlk_fuel {S:Tr}{K:Nat→List Nat}{d:Nat→Nat}(h:Lk S K d):∀(f f' i:Nat),128 - d i≤f→f≤f'→wlk K f' i=wlk K f i
 | 0,f',i,h1,_=>by
  have hK:K i=[]:=by
   cases e:K i with
   | nil=>rfl
   | cons k t =>
    have h2:=h.dep i k (by rw [e];simp)
    have h3:=h.low k
    omega
  cases f' with
  | zero=>rfl
  | succ f'=>show i :: (K i).flatMap _=[i];rw [hK];rfl
 | f+1,f',i,h1,h2=>by
  obtain⟨f',rfl⟩:∃q,f'=q+1:=⟨f' - 1,by omega⟩
  show i :: (K i).flatMap _=i :: (K i).flatMap _
  rw [flat_congr (fun k hk=>wlk_fuel h f f' k (by have:=h.dep i k hk;omega) (by omega))]
theorem wlk_cp {K' KJ:Nat→List Nat}{P:List Nat}{r:Nat→Nat}(hk:∀x∈P,K' (r x)=(KJ x).map r)(hc:∀x∈P,∀k∈KJ x,k∈P):∀(f y:Nat),y∈P→wlk K' f (r y)=(wlk KJ f y).map r
 | 0,y,_=>rfl
 | f+1,y,hy=>by
  show r y :: (K' (r y)).flatMap _=(y :: (KJ y).flatMap _).map r
  rw [hk y hy,List.flatMap_map,List.map_cons,List.map_flatMap,flat_congr fun k hk'=>wlk_cp hk hc f k (hc y hy k hk')]
theorem hsOf_app {S S':Tr}{M L:List MN}{σ : Nat→Nat}{sl:List Nat}(hb:S'.b=S.b)(hs:S'.s=S.s)(hl:sl.length=L.length)(hg:∀m∈L,m.gone=false) :
  hsOf S' (sExt M.length σ sl) (M ++ L)=hsOf S σ M ++ sl.map S'.hd:=by
 apply List.ext_getElem?
 intro i
 by_cases hi:i < M.length
 ·rw [List.getElem?_append_left (by rw [hsOf_len];exact hi),hsOf_at (by rw [List.length_append];omega),hsOf_at hi,lv_app_old hi]
  have:S'.hd (sExt M.length σ sl i)=S.hd (σ i):=by unfold sExt;rw [if_pos hi];unfold Tr.hd;rw [hb,hs]
  rw [this]
 ·rw [List.getElem?_append_right (by rw [hsOf_len];omega),hsOf_len,List.getElem?_map]
  by_cases h2:i - M.length < L.length
  ·rw [hsOf_at (by rw [List.length_append];omega),lv_app_new (by omega)]
   have:(lv L (i - M.length)).isSome=true:=by rw [lv_of (List.getElem?_eq_getElem h2) (hg _ (List.getElem_mem h2))];rfl
   rw [if_pos this]
   unfold sExt
   rw [if_neg hi,List.getD_eq_getElem?_getD,List.getElem?_eq_getElem (show i - M.length < sl.length by omega)];rfl
  ·rw [List.getElem?_eq_none (by rw [hsOf_len,List.length_append];omega),List.getElem?_eq_none (by omega)];rfl
section
variable {ex : Prop} {E : Nat → Prop} {c x : Nat} {B : Nat} {w0 : World} {l : List Ob} {g R Q : Nat} {S S' : Tr} {K K' : Nat → List Nat} {d d' : Nat → Nat} {X X' : List MX} {σ : Nat → Nat} {o : OpV}
theorem do_copied (T:TwS ex E c x S K d (ms X) σ)(hE:∀y,E y→(S.at y).isSome=true)(hk:o.k % 10=8){ma:MN}(ha:lv (ms X) (o.iA (ms X).length)=some ma)
  {PM:List Nat}{KM KJ:Nat→List Nat}{r:Nat→Nat}(hP:∀y∈PM,∃my,lv (ms X) y=some my)(hnd:PM.Nodup)(haP:o.iA (ms X).length∈PM)
  (hcl:∀y∈PM,∀k∈KM y,k∈PM∧k≠o.iA (ms X).length∧∃mk,lv (ms X) k=some mk∧mk.par=some y)(hpar:∀y∈PM,y≠o.iA (ms X).length→∃p∈PM,(ndM (ms X) y).par=some p∧y∈KM p)
  (C:CpD S K d S' K' d' (σ (o.iA (ms X).length)) KJ (PM.map σ) r)(hKJ:∀y∈PM,KJ (σ y)=(KM y).map σ)(hKK:∀y,∀k∈KJ y,k∈K y)(hz:∀y∈PM.map σ,y≠0)
  (hwl:∀f,128 - d (σ (o.iA (ms X).length))≤f→wlk KJ f (σ (o.iA (ms X).length))=PM.map σ)(hl:(ms X).length+PM.length≤10000)
  (hms:ms X'=ms X ++ PM.map (cpK (ms X) (psi PM (ms X).length) KM (o.iA (ms X).length)))(hm:MCpy (ms X) (fun i=>d (σ i)) (decide (0 < o.n)) (o.iA (ms X).length) ma (ms X') 0) :
  (wlk K' (128 - d' (r (σ (o.iA (ms X).length)))) (r (σ (o.iA (ms X).length)))).length=PM.length ∧
   ∀w hv sv fv nv,All B w0 (twL g R Q hv (hsOf S σ (ms X) ++ (wlk K' (128 - d' (r (σ (o.iA (ms X).length)))) (r (σ (o.iA (ms X).length)))).map S'.hd) S' sv fv nv X' ++ l) w→DoR ex E c x B w0 l g R Q S K d (ms X) σ o (.returned (.tuple #[.slice none 0 0,.bool true])) w:=by
 generalize hA:o.iA (ms X).length=a at *
 obtain⟨na,hna,_⟩:=T.tw.node a ma ha
 have hL:=T.ok.lk
 have hcl':∀y∈PM.map σ,∀k∈KJ y,k∈PM.map σ:=fun y hy k hk=>by
  obtain⟨z,hz,rfl⟩:=List.mem_map.1 hy
  rw [hKJ z hz] at hk
  obtain⟨q,hq,rfl⟩:=List.mem_map.1 hk
  exact List.mem_map.2 ⟨q,(hcl z hz q hq).1,rfl⟩
 have hd1:1≤d (σ a):=by
  rcases hL.parO (σ a) with ⟨q,hq⟩ | ht
  ·have:=hL.dep q _ hq;omega
  ·have:=hL.one (σ a) (by rw [hna];rfl) ht;omega
 have hdn:=C.dn (σ a) (List.mem_map.2 ⟨a,haP,rfl⟩)
 have hsl:nxS PM.length S.fl=(PM.map σ).map r:=by
  have:=C.sl
  rw [List.length_map] at this
  exact this.symm
 have hw:wlk K' (128 - d' (r (σ a))) (r (σ a))=nxS PM.length S.fl:=by
  rw [wlk_cp C.kn hcl' _ _ (List.mem_map.2 ⟨a,haP,rfl⟩),hwl _ (by omega),hsl]
 rw [hw]
 have hXl:(ms X').length=(ms X).length+PM.length:=by rw [hms,List.length_append,List.length_map]
 have hfl:=C.fl
 rw [List.length_map] at hfl
 refine⟨nxS_len _ _,fun w hv sv fv nv hAll=>?_⟩
 have hTo:=T.ok.copied C (fun y hy k hk=>⟨hcl' y hy k hk,hKK y k hk⟩) hz
 have hTw:=T.tw.copied hL hP hnd hcl hpar C hKJ (fun y hy he=>by
  have:=hE _ he
  rw [(C.new (σ y) (List.mem_map.2 ⟨y,hy,rfl⟩)).1] at this
  cases this) hl
 rw [← hms] at hTw
 have hHs:=hsOf_app (S:=S) (S':=S') (M:=ms X) (σ:=σ) (L:=PM.map (cpK (ms X) (psi PM (ms X).length) KM a)) (sl:=nxS PM.length S.fl) C.eb C.es (by rw [nxS_len,List.length_map]) (fun m hm=>by
  obtain⟨y,_,rfl⟩:=List.mem_map.1 hm;rfl)
 rw [← hms] at hHs
 rw [← hHs] at hAll
 have hS2:S'.slots.length≤S.slots.length+PM.length:=by
  have h1:=nxN_len PM.length S.fl
  rw [← hfl] at h1
  exact h1.2.1
 have hno:∀y∈PM.map σ,¬E (r y):=fun y hy he=>by
  have:=hE _ he
  rw [(C.new y hy).1] at this
  cases this
 refine⟨.slice none 0 0,true,S',K',d',X',_,hv,sv,fv,nv,[],[],[],rfl,hAll.nil _ _,⟨hTo.mono (Nat.le_succ c),hTw.mono (Nat.le_succ c),fun p k hk=>?_,?_⟩,fun _=>⟨rfl,rfl⟩,C.eb,C.es,fun y hy=>?_,.cpy ma _ 0 hk (by rw [hA];exact ha) (by rw [hA];exact hm),⟨fun i mi hi=>?_,?_⟩,.inl ⟨by omega,rfl⟩⟩
 ·have hp:=(C.lk.kin p k hk).1
  by_cases e:(S.at p).isSome=true
  ·rw [(C.old p e).2.1] at hk
   exact T.cl p k hk
  ·obtain⟨y,hy,rfl,hk2⟩:=C.two hp e
   rw [hk2] at hk
   obtain⟨q,hq,rfl⟩:=List.mem_map.1 hk
   exact⟨fun h=>absurd h (hno y hy),fun h=>absurd h (hno q (hcl' y hy q hq))⟩
 ·have:=T.lim
  rw [hXl];omega
 ·obtain⟨h1,h2,_⟩:=C.old y (hE y hy)
  exact⟨h1,h2⟩
 ·rw [hXl,Nat.add_sub_cancel_left]
 ·rw [hXl,Nat.add_sub_cancel_left,hfl]
  show _=((nxN PM.length S.fl).1 ++ [],(nxN PM.length S.fl).2)
  rw [List.append_nil]
theorem do_deep (T:TwS ex E c x S K d (ms X) σ)(hE:∀y,E y→(S.at y).isSome=true)(hk:o.k % 10=8){ma:MN}(ha:lv (ms X) (o.iA (ms X).length)=some ma)(h0:o.iA (ms X).length≠0)(hn:decide (0 < o.n)=true){r:Nat→Nat}
  (C:CpD S K d S' K' d' (σ (o.iA (ms X).length)) K (wlk K (128 - d (σ (o.iA (ms X).length))) (σ (o.iA (ms X).length))) r)(hl:(ms X).length+S.slots.length≤10000)
  (hms:ms X'=ms X ++ (wlk (kM (ms X)) (128 - d (σ (o.iA (ms X).length))) (o.iA (ms X).length)).map (cpN (ms X) (psi (wlk (kM (ms X)) (128 - d (σ (o.iA (ms X).length))) (o.iA (ms X).length)) (ms X).length) (o.iA (ms X).length) none)) :
  X'.length=X.length+(wlk K' (128 - d' (r (σ (o.iA (ms X).length)))) (r (σ (o.iA (ms X).length)))).length ∧
   ∀w hv sv fv nv,All B w0 (twL g R Q hv (hsOf S σ (ms X) ++ (wlk K' (128 - d' (r (σ (o.iA (ms X).length)))) (r (σ (o.iA (ms X).length)))).map S'.hd) S' sv fv nv X' ++ l) w→DoR ex E c x B w0 l g R Q S K d (ms X) σ o (.returned (.tuple #[.slice none 0 0,.bool true])) w:=by
 have hL:=T.ok.lk
 obtain⟨na,hna,_⟩:=T.tw.node _ ma ha
 have hsa:(S.at (σ (o.iA (ms X).length))).isSome=true:=by rw [hna];rfl
 have hW:=T.tw.wlk (128 - d (σ (o.iA (ms X).length))) _ ma ha
 have hlive:=T.tw.wlk_live (128 - d (σ (o.iA (ms X).length))) _ ma ha
 have hndK:=wlk_nodup hL (128 - d (σ (o.iA (ms X).length))) _ hsa
 have hnd:(wlk (kM (ms X)) (128 - d (σ (o.iA (ms X).length))) (o.iA (ms X).length)).Nodup:=by
  rw [hW] at hndK
  exact(List.pairwise_map.1 hndK).imp (fun h e=>h (by rw [e]))
 have mem:∀y,(S.at y).isSome=true→(y∈wlk K (128 - d (σ (o.iA (ms X).length))) (σ (o.iA (ms X).length))↔subB S d (σ (o.iA (ms X).length)) y=true):=fun y hy=>⟨fun h=>(wlk_sub hL _ _ y hsa h).1,fun h=>sub_wlk hL (d y) _ y rfl hy hsa h⟩
 have memM:∀y my,lv (ms X) y=some my→(y∈wlk (kM (ms X)) (128 - d (σ (o.iA (ms X).length))) (o.iA (ms X).length)↔subB S d (σ (o.iA (ms X).length)) (σ y)=true):=fun y my hy=>by
  obtain⟨ny,hny,_⟩:=T.tw.node y my hy
  rw [← mem _ (by rw [hny];rfl),hW]
  refine⟨fun h=>List.mem_map.2 ⟨y,h,rfl⟩,fun h=>?_⟩
  obtain⟨z,hz,e⟩:=List.mem_map.1 h
  obtain⟨mz,hmz⟩:=hlive z hz
  rw [← T.tw.inj z y mz my hmz hy e];exact hz
 have hlen:(wlk (kM (ms X)) (128 - d (σ (o.iA (ms X).length))) (o.iA (ms X).length)).length≤S.slots.length:=T.tw.wlk_len hL _ ha
 rw [hW] at C
 have hcp:(wlk (kM (ms X)) (128 - d (σ (o.iA (ms X).length))) (o.iA (ms X).length)).map (cpN (ms X) (psi (wlk (kM (ms X)) (128 - d (σ (o.iA (ms X).length))) (o.iA (ms X).length)) (ms X).length) (o.iA (ms X).length) none)=(wlk (kM (ms X)) (128 - d (σ (o.iA (ms X).length))) (o.iA (ms X).length)).map (cpK (ms X) (psi (wlk (kM (ms X)) (128 - d (σ (o.iA (ms X).length))) (o.iA (ms X).length)) (ms X).length) (kM (ms X)) (o.iA (ms X).length)):=by
  refine List.map_congr_left fun y hy=>?_
  obtain⟨my,hmy⟩:=hlive y hy
  unfold cpN cpK
  rw [kM_of hmy,ndM_lv hmy]
 have hmc:MCpy (ms X) (fun i=>d (σ i)) (decide (0 < o.n)) (o.iA (ms X).length) ma (ms X') 0:=by rw [hms];exact .deep h0 hn
 rw [hcp] at hms
 have hlenX:(ms X').length=(ms X).length+(wlk (kM (ms X)) (128 - d (σ (o.iA (ms X).length))) (o.iA (ms X).length)).length:=by rw [hms,List.length_append,List.length_map]
 have key:=do_copied (B:=B) (w0:=w0) (l:=l) (g:=g) (R:=R) (Q:=Q) T hE hk ha hlive hnd ?_ (fun y hy k hky=>?_) (fun y hy hya=>?_) C (fun y hy=>?_) (fun y k hky=>hky) (fun y hy=>?_) (fun f hf=>?_) (by omega) hms hmc
 ·obtain⟨k1,k2⟩:=key
  refine⟨?_,k2⟩
  have e1:=ms_len X
  have e2:=ms_len X'
  rw [k1];omega
 ·rw [memM _ ma ha];exact sub_self hL hsa
 ·obtain⟨my,hmy⟩:=hlive y hy
  rw [kM_of hmy] at hky
  obtain⟨mk,h1,h2⟩:=T.tw.kid y my k hmy hky
  have hkk:σ k∈K (σ y):=by rw [T.tw.kids y my hmy];exact List.mem_map.2 ⟨k,hky,rfl⟩
  have hy2:=(memM y my hmy).1 hy
  have hys:(S.at (σ y)).isSome=true:=(hL.kin _ _ hkk).1
  refine⟨(memM k mk h1).2 (by rw [sub_kid hL hkk,hy2,Bool.or_true]),fun e=>?_,mk,h1,h2⟩
  have hle:=sub_le hL hys hy2
  have:=hL.dep _ _ hkk
  rw [e] at this
  omega
 ·obtain⟨my,hmy⟩:=hlive y hy
  have hy2:=(memM y my hmy).1 hy
  obtain⟨ny,hny,_⟩:=T.tw.node y my hmy
  have hys:(S.at (σ y)).isSome=true:=by rw [hny];rfl
  have hne:(σ (o.iA (ms X).length) == σ y)=false:=by
   rw [beq_eq_false_iff_ne]
   exact fun e=>hya (T.tw.inj _ _ ma my ha hmy e).symm
  cases hp:my.par with
  | none =>
   have ht:=T.tw.top y my hmy hp
   rw [sub_top hL hys ht,hne] at hy2
   cases hy2
  | some p =>
   obtain⟨mp,h1,h2⟩:=T.tw.par y my p hmy hp
   have hkk:σ y∈K (σ p):=by rw [T.tw.kids p mp h1];exact List.mem_map.2 ⟨y,h2,rfl⟩
   rw [sub_kid hL hkk,hne,Bool.false_or] at hy2
   exact⟨p,(memM p mp h1).2 hy2,by rw [ndM_lv hmy];exact hp,by rw [kM_of h1];exact h2⟩
 ·obtain⟨my,hmy⟩:=hlive y hy
  rw [T.tw.kids y my hmy,kM_of hmy]
 ·rintro rfl
  rw [← hW,mem 0 (by obtain⟨n,hn,_⟩:=T.ok.doc;rw [hn];rfl),sub_top hL (by obtain⟨n,hn,_⟩:=T.ok.doc;rw [hn];rfl) T.ok.nodoc] at hy
  obtain⟨hz,m0,hm0⟩:=T.tw.zero
  exact h0 (T.tw.inj _ 0 ma m0 ha hm0 (by rw [hz];simpa using hy))
 ·rw [← hW,wlk_fuel hL _ f _ (Nat.le_refl _) hf]
theorem do_flat (T:TwS ex E c x S K d (ms X) σ)(hE:∀y,E y→(S.at y).isSome=true)(hk:o.k % 10=8){ma:MN}(ha:lv (ms X) (o.iA (ms X).length)=some ma)(h0:o.iA (ms X).length≠0)(hn:decide (0 < o.n)=false){r:Nat→Nat}
  (C:CpD S K d S' K' d' (σ (o.iA (ms X).length)) (kJ K (σ (o.iA (ms X).length)) 0) [σ (o.iA (ms X).length)] r)(hl:(ms X).length+1≤10000)
  (hms:ms X'=ms X ++ [⟨ma.kind,ma.name,ma.attrs,ma.data,none,[],false⟩]) :
  X'.length=X.length+(wlk K' (128 - d' (r (σ (o.iA (ms X).length)))) (r (σ (o.iA (ms X).length)))).length ∧
   ∀w hv sv fv nv,All B w0 (twL g R Q hv (hsOf S σ (ms X) ++ (wlk K' (128 - d' (r (σ (o.iA (ms X).length)))) (r (σ (o.iA (ms X).length)))).map S'.hd) S' sv fv nv X' ++ l) w→DoR ex E c x B w0 l g R Q S K d (ms X) σ o (.returned (.tuple #[.slice none 0 0,.bool true])) w:=by
 have hL:=T.ok.lk
 have hmc:MCpy (ms X) (fun i=>d (σ i)) (decide (0 < o.n)) (o.iA (ms X).length) ma (ms X') 0:=by rw [hms];exact .flat h0 hn
 have hlenX:(ms X').length=(ms X).length+1:=by rw [hms,List.length_append,List.length_singleton]
 have hJ0:kJ K (σ (o.iA (ms X).length)) 0 (σ (o.iA (ms X).length))=[]:=by unfold kJ;rw [if_pos rfl];rfl
 have key:=do_copied (PM:=[o.iA (ms X).length]) (KM:=fun _=>[]) (B:=B) (w0:=w0) (l:=l) (g:=g) (R:=R) (Q:=Q) T hE hk ha (fun y hy=>?_) (by simp) (by simp) (fun y hy k hky=>by cases hky) (fun y hy hya=>absurd (by simpa using hy) hya) C (fun y hy=>?_) (fun y k hky=>?_) (fun y hy=>?_) (fun f hf=>?_) hl ?_ hmc
 ·obtain⟨k1,k2⟩:=key
  refine⟨?_,k2⟩
  have e1:=ms_len X
  have e2:=ms_len X'
  rw [k1,List.length_singleton];omega
 ·have:y=o.iA (ms X).length:=by simpa using hy
  subst this
  exact⟨ma,ha⟩
 ·have:y=o.iA (ms X).length:=by simpa using hy
  subst this
  exact hJ0
 ·unfold kJ at hky
  split at hky
  ·simp at hky
  ·exact hky
 ·have:y=σ (o.iA (ms X).length):=by simpa using hy
  subst this
  intro e
  obtain⟨hz,m0,hm0⟩:=T.tw.zero
  exact h0 (T.tw.inj _ 0 ma m0 ha hm0 (by rw [hz];exact e))
 ·cases f with
  | zero=>rfl
  | succ f=>show _ :: (kJ K _ 0 _).flatMap _=_;rw [hJ0];rfl
 ·rw [hms]
  unfold cpK
  rw [List.map_singleton,ndM_lv ha]
  simp
end
end Go.Proofs.YtfelmdkeaacfeaaGreatDoor.W
end
section
namespace Go.Proofs.YtfelmdkeaacfeaaGreatDoor.W
open Go.RowKit
attribute [local go_sem] Oper.semAt_some
def slC (b:Nat)(W:World):Option Nat:=(W.cell? ⟨b,2,none⟩).bind Value.ownBlock
structure KpT (b:Nat) (W W':World):Prop where
 size:W.heap.size≤W'.heap.size
 kept:∀(k:Nat) (cs:Array Value) (t:TypeId) (fr:Nat×Nat),W.heap[k]? = some (Obj.cells cs t fr)→k≠b→slC b W≠some k→W'.heap[k]? = some (Obj.cells cs t fr)
 sl:slC b W'=slC b W∨∀k,slC b W'=some k→W.heap.size≤k∧k < W'.heap.size
theorem KpT.trans {b:Nat}{A C D:World}(h:KpT b A C)(k:KpT b C D):KpT b A D:=by
 refine⟨Nat.le_trans h.size k.size,fun i cs t fr hi h1 h2=>k.kept i cs t fr (h.kept i cs t fr hi h1 h2) h1 (fun e=>?_),?_⟩
 ·rcases h.sl with e2 | e2
  ·exact h2 (e2 ▸ e)
  ·have:=(e2 i e).1;have:=hlt hi;omega
 ·rcases k.sl with e | e
  ·rcases h.sl with e2 | e2
   ·exact .inl (e.trans e2)
   ·exact .inr (fun i hi=>by have h1:=e2 i (e ▸ hi);have:=k.size;exact⟨h1.1,by omega⟩)
  ·exact .inr (fun i hi=>by have:=e i hi;have:=h.size;omega)
theorem slC_below {b:Nat}{W W':World}(hb:b < W.heap.size)(k:Below W.heap.size W W'):slC b W'=slC b W:=by
 unfold slC
 rw [k.cell (p:=⟨b,2,none⟩) hb]
theorem KpT.below {b:Nat}{W W':World}(hb:b < W.heap.size)(k:Below W.heap.size W W'):KpT b W W' :=
 ⟨k.size,fun i cs t fr hi _ _=>(k.block i (hlt hi)).trans hi,.inl (slC_below hb k)⟩
structure WkJ (b:Nat) (w0 W:World):Prop where
 kpt:KpT b w0 W
 bb:b < w0.heap.size
 sb:∀k,slC b w0=some k→k < w0.heap.size
theorem WkJ.kp {b:Nat}{w0 W W':World}(h:WkJ b w0 W)(k:KpT b W W'):WkJ b w0 W':=⟨h.kpt.trans k,h.bb,h.sb⟩
theorem WkJ.lt {b:Nat}{w0 W:World}(h:WkJ b w0 W):b < W.heap.size:=Nat.lt_of_lt_of_le h.bb h.kpt.size
theorem WkJ.hi {b:Nat}{w0 W:World}(h:WkJ b w0 W){k:Nat}(hk:slC b W=some k):k < W.heap.size:=by
 rcases h.kpt.sl with e | e
 ·exact Nat.lt_of_lt_of_le (h.sb k (e ▸ hk)) h.kpt.size
 ·exact(e k hk).2
def WkLJ (S:Tr)(b:Nat)(K:Nat→List Nat)(f i:Nat)(w0 W:World)(pre:List Nat)(J:List Nat→World→Prop)(v:Value)(jv:Value)(wr:World):Prop :=
 ∃(j B2:Nat),j≤(K i).length∧jv=.int .i64 (j:Int)∧J (pre ++ [i] ++ ((K i).take j).flatMap (wlk K f)) wr∧KpT b W wr∧WkJ b w0 wr∧wr.ownsRow B2 3 1 v (K i).length (hC ((K i).map S.hd))∧∀k,v.ownBlock=some k→k≠b∧slC b wr≠some k
def WkCJ (R l b N:Nat)(S:Tr)(K:Nat→List Nat)(w0:World)(J Jx:List Nat→World→Prop)(f i:Nat):Prop :=
 ∀m pre W,WkJ b w0 W→J pre W→pre.length+(wlk K f i).length≤N →
  CallsIn Fence.wide m Tryz.prog 74 #[.pointer (some ⟨R,0,none⟩),.int .i64 (S.hd i),.func (.yield l) #[] #[]] W fun e W' =>
   (e=.returned (.bool true)∧J (pre ++ wlk K f i) W'∧KpT b W W')∨(e=.returned (.bool false)∧∃q,Jx q W')
theorem walkU_step {B R g cap N l b:Nat}{S:Tr}{fv:Value}{w0:World}{K:Nat→List Nat}{d:Nat→Nat}(h0:∀W,WkJ b w0 W→TAt B R S (.slice (some ⟨g,0,none⟩) S.slots.length cap) fv W)(hL:Lk S K d){J Jx:List Nat→World→Prop}
  (hJ:∀s W W',J s W→Below W.heap.size W W'→J s W')
  (hY:∀m pre x W,J pre W→pre.length < N→YieldAt Fence.wide m Tryz.prog l #[.int .i64 (S.hd x)] W fun e W'=>(e=.returned (.bool true)∧J (pre ++ [x]) W'∧KpT b W W')∨(e=.returned (.bool false)∧Jx (pre ++ [x]) W'))
  (f i:Nat)(n:Nd)(hi:S.at i=some n)(hw:wlk K f i=i :: (K i).flatMap (wlk K (f - 1)))(ih:∀k∈K i,WkCJ R l b N S K w0 J Jx (f - 1) k):WkCJ R l b N S K w0 J Jx f i:=by
 intro m pre W hI hj hN
 rw [hw] at hN ⊢
 obtain⟨fn,tmps,assign,body,hy,hR⟩:=hY (m - 1) pre i W hj (by simp at hN;omega)
 have HIH:=Lib.hid ih
 have HI:=Lib.hid hI
 have HJ:=Lib.hid hJ
 have hkl:=kids_len hL i
 clear ih hY hI hj hJ hw
 refine callsIn_of_wp Tryz.func74 rfl trivial ?_ rfl
 simp only [Tryz.ntmps74,List.size_toArray,List.length_cons,List.length_nil,Nat.reduceAdd,Nat.reduceSub,Array.replicate_succ,Array.replicate_zero,List.push_toArray,List.append_toArray,List.nil_append,List.cons_append]
 gi_wp2
 refine⟨fun h=>(by cases h),?_⟩
 refine hR.mono ?_
 rintro e W1 (⟨rfl,hj1,hk1⟩ | ⟨rfl,hx1⟩)
 ·have HI1:=Lib.hid (HI.out.kp hk1)
  have HK:=Lib.hid (kids_any (h0 _ HI1.out) hL i n hi)
  have HJ1:=Lib.hid hj1
  have HK1:=Lib.hid hk1
  clear hy hR hj1 hk1
  gi_wp2
  refine⟨trivial,fun h=>(by cases h),(callsIn_wide.2 HK.out).mono ?_⟩
  rintro e W2 ⟨v,rfl,ho,hb2⟩
  obtain⟨va,vc,rfl⟩:=own_shapeB ho
  have hb:=HI1.out.lt
  have k2:=KpT.below hb hb2
  have HO:=Lib.hid ho
  have hI2:=HI1.out.kp k2
  have HS:=Lib.hid (show WkLJ S b K (f - 1) i w0 W pre J (.slice va (K i).length vc) (.int .i64 0) W2 from⟨0,W1.heap.size,by omega,rfl,by simpa using HJ.out _ _ _ HJ1.out hb2,HK1.out.trans k2,hI2,ho,fun k hk=>by
   have h1:=(ho.lt k hk).1
   refine⟨by omega,fun e=>?_⟩
   rw [slC_below hb hb2] at e
   have:=HI1.out.hi e
   omega⟩)
  clear ho hb2 k2 hI2 HK
  gi_wp2
  gi_loopw [17] (fun jv wr=>WkLJ S b K (f - 1) i w0 W pre J (.slice va (K i).length vc) jv wr) (fun jv _=>(K i).length - (intOf jv).toNat)
  case atStart=>exact HS.out
  case round =>
   obtain⟨j,B2,hjl,rfl,hjj,hkk,hii,hoo,hne⟩:=hrel
   have HOo:=Lib.hid hoo
   have HJj:=Lib.hid hjj
   have HKk:=Lib.hid hkk
   have HIi:=Lib.hid hii
   have HNe:=Lib.hid hne
   clear hjj hkk hii hne
   by_cases hlt:j < (K i).length
   ·obtain⟨k,hk⟩:∃k,(K i)[j]? = some k:=⟨_,List.getElem?_eq_getElem hlt⟩
    obtain⟨gv,cp2,hv,hc⟩:=own_int hoo (x:=S.hd k) (by rw [List.getElem?_map,hk];rfl)
    cases hv
    have hcg:=World.block_lt_of_cell? wr ⟨gv,j,none⟩ hc
    have HC:=Lib.hid (HIH.out k (List.mem_of_getElem? hk) (m - 1) (pre ++ [i] ++ ((K i).take j).flatMap (wlk K (f - 1))) wr HIi.out HJj.out (by
     have e:=flatMap_take_succ hk (wlk K (f - 1))
     have h2:(((K i).take (j+1)).flatMap (wlk K (f - 1))).length≤((K i).flatMap (wlk K (f - 1))).length:=by
      conv=>rhs;rw [← List.take_append_drop (j+1) (K i),List.flatMap_append]
      simp
     rw [e] at h2
     simp only [List.length_append,List.length_cons,List.length_nil] at h2 hN ⊢
     omega))
    have HE:=Lib.hid (flatMap_take_succ hk (wlk K (f - 1)))
    clear hoo hk
    gi_wp2
    refine⟨trivial,fun h=>(by cases h),HC.out.mono ?_⟩
    rintro e W3 (⟨rfl,hj3,hk3⟩ | ⟨rfl,q,hx3⟩)
    ·have HS3:=Lib.hid (show WkLJ S b K (f - 1) i w0 W pre J (.slice (some ⟨gv,0,none⟩) (K i).length vc) (.int .i64 ((j+1:Nat):Int)) W3 from⟨j+1,B2,by omega,rfl,by rw [HE.out];rw [List.append_assoc] at hj3;exact hj3,HKk.out.trans hk3,HIi.out.kp hk3,own_kB HOo.out (fun g hg=>by
      obtain⟨cur,hcur⟩:=own_ty HOo.out hg
      exact(hk3.kept g _ _ _ hcur (HNe.out g hg).1 (HNe.out g hg).2).trans hcur.symm),fun g hg=>⟨(HNe.out g hg).1,fun e=>by
       rcases hk3.sl with e2 | e2
       ·exact(HNe.out g hg).2 (e2 ▸ e)
       ·have:=(e2 g e).1;have:=(HOo.out.lt g hg).2;omega⟩⟩)
     clear hj3 hk3
     gi_wp2
     go_roundw
     case rel=>exact HS3.out
     case measure=>simp [intOf];omega
    ·have HX:=Lib.hid hx3
     clear hx3
     gi_wp2
     go_ret
     exact .inr ⟨rfl,_,HX.out⟩
   ·obtain rfl:j=(K i).length:=by omega
    rw [List.take_length] at HJj
    clear hoo
    gi_wp2
    go_ret
    refine .inl ⟨rfl,?_,HKk.out⟩
    have:=HJj.out
    rw [List.append_assoc] at this
    exact this
 ·have HX:=Lib.hid hx1
  clear hy hR hx1
  gi_wp2
  go_ret
  exact .inr ⟨rfl,_,HX.out⟩
theorem walkU_in {B R g cap N l b:Nat}{S:Tr}{fv:Value}{w0:World}{K:Nat→List Nat}{d:Nat→Nat}(h0:∀W,WkJ b w0 W→TAt B R S (.slice (some ⟨g,0,none⟩) S.slots.length cap) fv W)(hL:Lk S K d){J Jx:List Nat→World→Prop}
  (hJ:∀s W W',J s W→Below W.heap.size W W'→J s W')
  (hY:∀m pre x W,J pre W→pre.length < N→YieldAt Fence.wide m Tryz.prog l #[.int .i64 (S.hd x)] W fun e W'=>(e=.returned (.bool true)∧J (pre ++ [x]) W'∧KpT b W W')∨(e=.returned (.bool false)∧Jx (pre ++ [x]) W')) :
  ∀(f i:Nat) (n:Nd),S.at i=some n→128 - d i=f→WkCJ R l b N S K w0 J Jx f i:=by
 intro f
 induction f with
 | zero =>
  intro i n hi hf
  have hK:K i=[]:=by
   cases e:K i with
   | nil=>rfl
   | cons k t =>
    have h1:=hL.dep i k (by rw [e];simp)
    have h2:=hL.low k
    omega
  exact walkU_step h0 hL hJ hY 0 i n hi (by rw [hK];rfl) (fun k hk=>by rw [hK] at hk;cases hk)
 | succ f ih =>
  intro i n hi hf
  refine walkU_step h0 hL hJ hY (f+1) i n hi rfl (fun k hk=>?_)
  obtain⟨j,hj⟩:=List.mem_iff_getElem?.1 hk
  obtain⟨nk,hnk⟩:=hL.some hj
  have hdk:=hL.dep i k hk
  have hlow:=hL.low k
  exact ih k nk hnk (by omega)
theorem walk1_at {B R g cap b i Bs Bh n:Nat}{S:Tr}{fv:Value}{w0 w:World}{K:Nat→List Nat}{d:Nat→Nat}(h0:∀W,WkJ b w0 W→TAt B R S (.slice (some ⟨g,0,none⟩) S.slots.length cap) fv W)(hL:Lk S K d)(nd:Nd)(hi:S.at i=some nd)
  (hI:WkJ b w0 w)(hBs:Blk w Bs [.pointer (some ⟨R,0,none⟩)] 29)(hBh:Blk w Bh [.int .i64 (S.hd i)] 3) :
  SeqStopsK Fence.wide n Tryz.prog 73 #[.pointer (some ⟨Bs,0,none⟩),.pointer (some ⟨Bh,0,none⟩)] (fun x:Nat=>#[Value.int .i64 (S.hd x)]) (KpT b) (fun ys=>ys=wlk K (128 - d i) i) (fun _=>True) (wlk K (128 - d i) i).length w:=by
 intro l J Jx W hW hJ hJx hY hj
 have hbl:=hI.lt
 have hIW:=hI.kp (KpT.below hbl hW)
 have hix:S.ix (S.hd i)=some i:=hd_ix hL hi
 have HAt:=Lib.hid (at_some (h0 _ hIW) (S.hd i) (hd_ok hL hi).1 hix)
 have c0:=(hBs.below hW).cell 0
 have c1:=(hBh.below hW).cell 0
 simp only [List.getElem?_cons_zero] at c0 c1
 have hlW:b < W.heap.size:=hIW.lt
 have HW:=Lib.hid (fun W1 (hb:Below W.heap.size W W1)=>walkU_in (N:=(wlk K (128 - d i) i).length) (l:=l) (b:=b) (J:=J) (Jx:=Jx) h0 hL (fun s W W' hs hb=>hJ s W W' none hs (grown_of_below hb) (fun r e=>by cases e)) (fun m pre x W hp hl=>yield_any m (hY pre x W hp hl)) (128 - d i) i nd hi rfl (n - 1) [] W1 (hIW.kp (KpT.below hlW hb)) (hJ _ _ _ none hj (grown_of_below hb) (fun r e=>by cases e)) (by simp))
 have HBs:=Lib.hid (hBs.below hW)
 have HBh:=Lib.hid (hBh.below hW)
 clear hY hj hJ hJx hI hIW hBs hBh
 refine callsIn_of_wp Tryz.func73 rfl trivial ?_ rfl
 simp only [Tryz.ntmps73,List.size_toArray,List.length_cons,List.length_nil,Nat.reduceAdd,Nat.reduceSub,Array.replicate_succ,Array.replicate_zero,List.push_toArray,List.append_toArray,List.nil_append,List.cons_append]
 gi_wp2
 refine⟨trivial,fun h=>(by cases h),(callsIn_wide.2 HAt.out).mono ?_⟩
 rintro e W1 ⟨rfl,hb1⟩
 have HW1:=Lib.hid (HW.out W1 hb1)
 have d0:=(HBs.out.below hb1).cell 0
 have d1:=(HBh.out.below hb1).cell 0
 simp only [List.getElem?_cons_zero] at d0 d1
 clear hb1 c0 c1 HW
 gi_wp2
 refine⟨trivial,fun h=>(by cases h),HW1.out.mono ?_⟩
 rintro e W2 (⟨rfl,hj2,hk2⟩ | ⟨rfl,q,hx2⟩)
 ·have HJ2:=Lib.hid hj2
  clear hj2 hk2
  gi_wp2
  go_end0
  exact⟨⟨_,rfl⟩,.inl ⟨_,rfl,by simpa using HJ2.out⟩⟩
 ·have HX:=Lib.hid hx2
  clear hx2
  gi_wp2
  go_end0
  exact⟨⟨_,rfl⟩,.inr ⟨q,trivial,HX.out⟩⟩
end Go.Proofs.YtfelmdkeaacfeaaGreatDoor.W
end
section
namespace Go.Proofs.YtfelmdkeaacfeaaGreatDoor.W.RZ
open Go
open Go.Proofs.YtfelmdkeaacfeaaGreatDoor.W
section
variable {P : Program} {ops : Array Oper} {L : Pl} {md : Region.Mode} {m n0 : Nat} {Q : Array Bool → List Value → List Ob → Act → Prop} {F : Go.Fence}
theorem wpAnyIn_of_any4F (hF:∀f,F.fn f)(hD:Option.isSome F.depth=false)(hcal:∀f args w R,Calls P f args w R→CallsIn F (n0 - 1) P f args w R)(hnd:∀(j:Nat) (o:Oper),ops[j]? = some o→∀c,o.op≠.defer c){t:Nat}{Q':Exit→Act→World→Prop}(hS:∀k X w,L.C k X w→L.S w)(hM:∀k X w cs ty,L.C k X w→L.C k (bk w.heap.size cs ty :: X) (w.alloc (.cells cs.toArray ty)))
  (hQ:∀listed k X a w,L.C k X w→Q listed k X a→wpAnyIn F n0 P md ops Q' t listed a w) :
  ∀(n:Nat) (listed:Array Bool) (k:List Value) (X:List Ob) (a:Act) (w:World),L.C k X w→any4 P ops L md m Q n listed k X a→wpAnyIn F n0 P md ops Q' (n+t) listed a w:=by
 intro n
 induction n with
 | zero=>intro listed k X a w hw h;rw [Nat.zero_add];exact hQ _ _ _ _ _ hw h.2
 | succ n ih =>
  intro listed k X a w hw h
  rw [show n+1+t=(n+t)+1 by omega]
  refine⟨fun e=>absurd e h.1,fun i hi=>?_⟩
  obtain⟨_,o,ho,_⟩:=mem_ready.1 hi
  obtain⟨hok,hn⟩:=(h.2 i hi).2 o ho
  unfold wpOpIn
  simp only [ho]
  cases hwt:Region.wanted o (yielded ops a.tmps) with
  | false =>
   simp only [Bool.false_eq_true,if_false]
   exact⟨fun f _=>hF f,ih _ _ _ _ _ hw (hn k [] undef (.inl ⟨hwt,rfl,rfl,rfl⟩))⟩
  | true =>
   simp only [if_true]
   obtain⟨o1,o2,o3⟩:=hok hwt
   unfold Oper.wpIn
   refine⟨fun f _=>hF f,?_⟩
   rw [Oper.semAt_plain F _ _ (hnd i o ho)]
   rcases kind_three o with e | e | e
   ·obtain⟨v,hv⟩:=o1 e
    have hk:=hn k [] v (.inr ⟨hwt,.inl ⟨e,hv,rfl,rfl⟩⟩)
    rcases hv w (hS _ _ _ hw) with r | ⟨r,rfl⟩
    ·rw [r];exact ih _ _ _ _ _ hw hk
    ·rw [r];exact ih _ _ _ _ _ hw hk
   ·rcases(o2 e).2 X w (fun _ h=>h) hw with ⟨f,args,r,hc⟩ | ⟨v,w',r,hv,hw'⟩ | ⟨w',r,hv,hw'⟩
    ·rw [r]
     refine⟨fun h=>(by rw [hD] at h;cases h),CallsIn.mono (hcal _ _ _ _ hc) ?_⟩
     rintro e2 w' ⟨v,rfl,hv,hw'⟩
     exact ih _ _ _ _ _ hw' (hn (v :: k) [] v (.inr ⟨hwt,.inr (.inl ⟨e,hv,rfl,rfl⟩)⟩))
    ·rw [r]
     exact ih _ _ _ _ _ hw' (hn (v :: k) [] v (.inr ⟨hwt,.inr (.inl ⟨e,hv,rfl,rfl⟩)⟩))
    ·rw [r]
     exact ih _ _ _ _ _ hw' (hn (undef :: k) [] undef (.inr ⟨hwt,.inr (.inl ⟨e,hv,rfl,rfl⟩)⟩))
   ·have r:=o3 e w
    have hk:=hn k [bk w.heap.size (L.cs i) (L.ty i)] (L.made i w.heap.size) (.inr ⟨hwt,.inr (.inr ⟨e,rfl,w.heap.size,rfl,rfl⟩)⟩)
    rw [r]
    exact ih _ _ _ _ _ (hM _ _ _ _ _ hw) hk
theorem wpAnyIn_tailF (hF:∀f,F.fn f){Q':Exit→Act→World→Prop}:∀(l:List Oper) (k:Nat) (listed:Array Bool) (a:Act) (w:World),(∀j,l[j]? = ops[k+j]?)→tail4 md ops l.length k listed=true→wpListIn F n0 P ops Q' l a w→wpAnyIn F n0 P md ops Q' l.length listed a w
 | [],k,listed,a,w,hl,hB,h=>⟨by simpa [tail4] using hB,h⟩
 | o :: l,k,listed,a,w,hl,hB,h=>by
  have h0:ops[k]? = some o:=by simpa using (hl 0).symm
  simp only [List.length_cons,tail4,Bool.and_eq_true,beq_iff_eq] at hB
  obtain⟨hr,hB'⟩:=hB
  refine⟨fun e=>(by rw [hr] at e;cases e),fun i hi=>?_⟩
  rw [hr,List.mem_singleton] at hi
  subst hi
  unfold wpOpIn
  simp only [h0]
  have hrec:∀a' w',wpListIn F n0 P ops Q' l a' w'→wpAnyIn F n0 P md ops Q' l.length (listed.setIfInBounds i true) a' w':=fun a' w' h'=>wpAnyIn_tailF hF l (i+1) _ a' w' (fun j=>by have:=hl (j+1);simpa [Nat.add_assoc,Nat.add_comm 1 j] using this) hB' h'
  unfold wpListIn at h
  split
  ·rename_i hw
   rw [if_pos hw] at h
   exact Oper.wpIn_mono hrec h
  ·rename_i hw
   rw [if_neg hw] at h
   exact⟨h.1,hrec _ _ h.2⟩
def noDefer (o:Oper):Bool:=match o.op with | .defer _=>false | _=>true
theorem noDefer_of {o:Oper}(h:noDefer o=true)(c:Call):o.op≠.defer c:=fun e=>by
 unfold noDefer at h
 rw [e] at h
 cases h
theorem reg_mX {id:Nat}{Q':Exit→Act→World→Prop}{a:Act}{w:World}{l:List Oper}(L:Pl)(m:Nat)(hF:∀f,F.fn f)(hD:Option.isSome F.depth=false)(hcal:∀f args w R,Calls P f args w R→CallsIn F (n0 - 1) P f args w R)(hm:P.follows .mixedOrders=true)(hB:all4 .any l.toArray m (l.length - m)=true)(hnd:l.all noDefer=true)
  (hS:∀k X w,L.C k X w→L.S w)(hM:∀k X w cs ty,L.C k X w→L.C k (bk w.heap.size cs ty :: X) (w.alloc (.cells cs.toArray ty)))(hP:∀k X Y w,X.Perm Y→L.C k X w→L.C k Y w)(hC:L.C [] [] w.drew)
  (h:wp4 P l.toArray L (fun k X a'=>∀w',L.C k X w'→wpListIn F n0 P l.toArray Q' (l.drop m) a' w') 0 [] [] (l.take m) a):(Code.region id l.toArray true).wpIn F n0 P Q' a w:=by
 simp only [all4,Bool.and_eq_true,decide_eq_true_eq] at hB
 obtain⟨⟨⟨hs,hlx⟩,hb⟩,hsz⟩:=hB
 have hml:m≤l.length:=by simp at hsz;omega
 have htk:(l.take m).length=m:=by simp [hml]
 have hnd':∀(j:Nat) (o:Oper),l.toArray[j]? = some o→∀c,o.op≠.defer c:=fun j o ho=>by
  rw [List.all_eq_true] at hnd
  exact noDefer_of (hnd o (List.mem_of_getElem? (by simpa using ho)))
 refine wpIn_region_any hm ?_
 have h1:=any4_lex (P:=P) (L:=L) (md:=.any) (m:=m) (t:=l.length - m) (Q:=fun listed k X a'=>∀w',L.C k X w'→wpAnyIn F n0 P .any l.toArray Q' (l.length - m) listed a' w')
  (fun listed k X Y a hp hq w' hw'=>hq w' (hP _ _ _ _ hp.symm hw')) hs hb
  (fun listed k X a ht hq w' hw'=>by
   have:=wpAnyIn_tailF (P:=P) (md:=.any) (ops:=l.toArray) (n0:=n0) (Q':=Q') hF (l.drop m) m listed a w' (fun j=>by simp) (by simpa using ht) (hq w' hw')
   simpa using this)
  (l.take m) 0 (Array.replicate l.toArray.size false) [] [] a (by rw [htk];omega) (fun j hj=>by rw [List.getElem?_take];simp at hj ⊢;omega) (by simp) (by simp;intro j hj;simp [hj]) (by rw [htk];exact hlx) h
 have h2:=wpAnyIn_of_any4F (n0:=n0) (Q':=Q') hF hD hcal hnd' hS hM (fun listed k X a w' hw' hq=>hq w' hw') _ _ [] [] a _ hC h1
 have e:(l.take m).length+(l.length - m)=l.toArray.size:=by rw [htk];simp;omega
 rw [e] at h2
 exact h2
end
theorem calls_round {P:Program}{n l:Nat}(f:FuncId)(args:Array Value)(w:World)(R:Ending→World→Prop)(h:Calls P f args w R):CallsIn (Fence.wide.inRound l) n P f args w R:=(callsIn_wide (n:=n)).2 h
end Go.Proofs.YtfelmdkeaacfeaaGreatDoor.W.RZ
end
