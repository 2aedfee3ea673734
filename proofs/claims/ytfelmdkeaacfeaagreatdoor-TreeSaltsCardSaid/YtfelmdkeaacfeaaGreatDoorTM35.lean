/- Texts joined: DoC DoD DoE SamP. -/
import Derived.Test.YtfelmdkeaacfeaaGreatDoorTM33
import Derived.Test.YtfelmdkeaacfeaaGreatDoorTM34
import Derived.Test.YtfelmdkeaacfeaaGreatDoorTM24
import Derived.Test.YtfelmdkeaacfeaaGreatDoorTM17
import Derived.Test.YtfelmdkeaacfeaaGreatDoorTM16
set_option maxRecDepth 100000
set_option maxHeartbeats 40000000
set_option linter.unusedVariables false
set_option linter.unusedSimpArgs false
section
namespace Go.Proofs.YtfelmdkeaacfeaaGreatDoor.W
open Go.RowKit
def OpT (R:Nat)(S:Tr)(sv fv:Value)(w:World)(Res:Tr→List (List Value)→Int→Prop)(e:Ending)(w':World):Prop :=
 ∃S' sv' fv' v ls er,Res S' ls er∧e=.returned (.tuple #[v,.int .i64 er])∧RcAt w' w.heap.size v ls∧TrOut R S sv fv w S' sv' fv' w'∧∃ts:List Rc,ls=ts.map encR
theorem opT_nil {R:Nat}{S:Tr}{sv fv:Value}{w w':World}{Res:Tr→List (List Value)→Int→Prop}(h:TAt 0 R S sv fv w)(hb:Below w.heap.size w w'){er:Int}(hr:Res S [] er):OpT R S sv fv w Res (.returned (.tuple #[.slice none 0 0,.int .i64 er])) w' :=
 ⟨S,sv,fv,_,[],er,hr,rfl,World.ownsRow_nil _ _ _ _,TrOut.refl h hb,[],rfl⟩
theorem opT_of {R g cap:Nat}{S S':Tr}{fv v:Value}{w w':World}{Res:Tr→List (List Value)→Int→Prop}{ls:List (List Value)}{er:Int}(hr:Res S' ls er)(hrc:RcAt w' w.heap.size v ls)(hT:TAt 0 R S' (.slice (some ⟨g,0,none⟩) S'.slots.length cap) fv w')(hl:S'.slots.length=S.slots.length)(hC:Chg (fun k=>k=g) w w')
  (hF:∀k,trF R S' (.slice (some ⟨g,0,none⟩) S.slots.length cap) fv k→trF R S (.slice (some ⟨g,0,none⟩) S.slots.length cap) fv k∨w.heap.size≤k)(hls:∃ts:List Rc,ls=ts.map encR):OpT R S (.slice (some ⟨g,0,none⟩) S.slots.length cap) fv w Res (.returned (.tuple #[v,.int .i64 er])) w':=by
 rw [hl] at hT
 exact⟨S',_,fv,v,ls,er,hr,rfl,hrc,⟨hT,hC.mono (fun i _ e=>by subst e;exact .inr (.inl rfl)),hF⟩,hls⟩
section
variable {ex : Prop} {E : Nat → Prop} {c x : Nat} {S : Tr} {K : Nat → List Nat} {d : Nat → Nat} {M : List MN} {σ : Nat → Nat}
def FldOk (M:List MN)(v:Int):Prop:=∃o:Option Nat,v=pI o∧∀i,o=some i→∃m,lv M i=some m
def RcOk (M:List MN)(r:Rc):Prop:=FldOk M r.target∧FldOk M r.node∧FldOk M r.prev∧FldOk M r.next
theorem fld_hnd {v:Int}(h:FldOk M v)(hl:M.length≤100000):HndOk v∧hnd (hsOf S σ M) v=hM S σ v:=by
 obtain⟨o,rfl,ho⟩:=h
 cases o with
 | none=>exact⟨⟨by decide,by decide⟩,rfl⟩
 | some i =>
  obtain⟨m,hm⟩:=ho i rfl
  have:=lv_live ⟨m,hm⟩
  refine⟨⟨by show(-100000:Int)≤(i:Int);omega,by show(i:Int)≤100000;omega⟩,?_⟩
  show hnd (hsOf S σ M) (i:Int)=hM S σ (i:Int)
  rw [hM_nat]
  unfold hnd
  rw [if_neg (by omega),Int.toNat_natCast,List.getD_eq_getElem?_getD,hsOf_live hm];rfl
theorem cv_tr {rs:List Rc}(h:∀r∈rs,RcOk M r)(hl:M.length≤100000):rs.map (cvR (hsOf S σ M))=rs.map (trR S σ):=List.map_congr_left fun r hr=>by
 obtain⟨h1,h2,h3,h4⟩:=h r hr
 unfold cvR trR
 rw [(fld_hnd (S:=S) (σ:=σ) h1 hl).2,(fld_hnd (S:=S) (σ:=σ) h2 hl).2,(fld_hnd (S:=S) (σ:=σ) h3 hl).2,(fld_hnd (S:=S) (σ:=σ) h4 hl).2]
inductive MatchQ (M:List MN) (S:Tr) (σ : Nat→Nat) (ts rs:List Rc):Prop
 | same (h:ts=rs.map (trR S σ)) (hr:∀r∈rs,RcOk M r)
 | len (h:ts.length≠rs.length)
 | old (i:Nat) (nm o1 o2:List UInt8) (h1 h2:Bool) (ht:ts=[trR S σ (rcA i nm o1 h1)]) (hr:rs=[rcA i nm o2 h2]) (hi:∃m,lv M i=some m) (hne:o1≠o2∨h1≠h2)
structure Both (ex:Prop) (E:Nat→Prop) (c:Nat) (S:Tr) (K:Nat→List Nat) (M:List MN) (σ : Nat→Nat) (S':Tr) (ls:List (List Value)) (er:Int) (M':List MN) (rs:List Rc) (en:Int):Prop where
 rec_:∃ts:List Rc,ls=ts.map encR∧ts.length≤100∧(ex→er=en∧ts=rs.map (trR S σ))∧(er=en→MatchQ M S σ ts rs)
 st:∃K' d',TrOk (c+1) S' K' d'∧Tw ex E (c+1) S' K' M' σ∧(∀y,E y→S'.at y=S.at y∧K' y=K y)∧(∀p k,k∈K' p→(E p↔E k))
 b:S'.b=S.b
 s:S'.s=S.s
 fl:S'.fl=S.fl
 len:M'.length=M.length
 live:∀i,(lv M' i).isSome=(lv M i).isSome
theorem Both.hs {S':Tr}{ls er M' rs en}(h:Both ex E c S K M σ S' ls er M' rs en):hsOf S' σ M'=hsOf S σ M:=by
 unfold hsOf
 rw [h.len]
 refine List.map_congr_left fun i _=>?_
 rw [h.live i]
 unfold Tr.hd
 rw [h.b,h.s]
theorem both_nil (T:TrOk c S K d)(W:Tw ex E c S K M σ)(cl:∀p k,k∈K p→(E p↔E k))(en:Int):Both ex E c S K M σ S [] en M [] en :=
 ⟨⟨[],rfl,by simp,fun _=>⟨rfl,rfl⟩,fun _=>.same rfl (by simp)⟩,⟨K,d,T.mono (Nat.le_succ c),W.mono (Nat.le_succ c),fun _ _=>⟨rfl,rfl⟩,cl⟩,rfl,rfl,rfl,rfl,fun _=>rfl⟩
/-! ### links -/
theorem lv_set_isSome {M:List MN}{i:Nat}{m m':MN}(hi:lv M i=some m)(hg:m'.gone=false)(j:Nat):(lv (M.set i m') j).isSome=(lv M j).isSome:=by
 by_cases e:j=i
 ·subst e
  rw [hi]
  have h:=(lv_at hi).1
  have hl:=(List.getElem?_eq_some_iff.1 h).1
  rw [lv_of (m:=m') (by rw [List.getElem?_set,if_pos rfl,if_pos hl]) hg];rfl
 ·unfold lv;rw [List.getElem?_set_ne (fun h=>e h.symm)]
theorem lv_cut_isSome {M:List MN}{p j k:Nat}(i:Nat):(lv (cutM M p j k) i).isSome=(lv M i).isSome:=by
 cases e:lv M i with
 | some m=>rw [lv_cut e];rfl
 | none =>
  cases e2:lv (cutM M p j k) i with
  | none=>rfl
  | some m=>obtain⟨m0,h,_⟩:=lv_cut' e2;rw [h] at e;cases e
theorem lv_link_isSome {M:List MN}{p j k:Nat}(i:Nat):(lv (linkM M p j k) i).isSome=(lv M i).isSome:=by
 cases e:lv M i with
 | some m=>rw [lv_link e];rfl
 | none =>
  cases e2:lv (linkM M p j k) i with
  | none=>rfl
  | some m=>obtain⟨m0,h,_⟩:=lv_link' e2;rw [h] at e;cases e
theorem fld_some {i:Nat}{m:MN}(h:lv M i=some m):FldOk M (i:Int):=⟨some i,rfl,fun j hj=>by cases hj;exact⟨m,h⟩⟩
theorem fld_neg:FldOk M (-1):=⟨none,rfl,fun j hj=>by cases hj⟩
theorem fld_kid (W:Tw ex E c S K M σ){q:Nat}{mq:MN}(hq:lv M q=some mq)(j:Nat):FldOk M (pI mq.kids[j]?):=⟨_,rfl,fun i hi=>by
 obtain⟨m,h,_⟩:=W.kid q mq i hq (List.mem_of_getElem? hi);exact⟨m,h⟩⟩
theorem fld_pv (W:Tw ex E c S K M σ){q:Nat}{mq:MN}(hq:lv M q=some mq)(j:Nat):FldOk M (pI (pv mq.kids j)):=⟨_,rfl,fun i hi=>by
 unfold pv at hi
 split at hi
 ·cases hi
 ·obtain⟨m,h,_⟩:=W.kid q mq i hq (List.mem_of_getElem? hi);exact⟨m,h⟩⟩
theorem hang_E (W:Tw ex E c S K M σ)(cl:∀p k,k∈K p→(E p↔E k)){K':Nat→List Nat}{p k:Nat}(hp:¬E p)(hk:¬E k)(hm:∀q z,z∈K' q→z∈K q∨(q=p∧z=k)):∀q z,z∈K' q→(E q↔E z):=fun q z hz=>by
 rcases hm q z hz with h | ⟨rfl,rfl⟩
 ·exact cl q z h
 ·exact⟨fun h=>absurd h hp,fun h=>absurd h hk⟩
theorem keep_of (cl:∀p k,k∈K p→(E p↔E k)){S':Tr}{K':Nat→List Nat}(f:Nat→Nd→Nd)(hat:∀y,S'.at y=(S.at y).map (f y))(hf:∀y n,E y→S.at y=some n→f y n=n)(hK:∀y,E y→K' y=K y)(y:Nat)(hy:E y):S'.at y=S.at y∧K' y=K y:=by
 refine⟨?_,hK y hy⟩
 rw [hat]
 cases e:S.at y with
 | none=>rfl
 | some n=>show some (f y n)=_;rw [hf y n hy e]
inductive RemT (S:Tr) (K:Nat→List Nat) (i:Nat) (n:Nd):Tr→List (List Value)→Int→Prop
 | doc (h:n.kind=1):RemT S K i n S [] 10
 | top (h:n.kind≠1) (ht:∀q,i∉K q):RemT S K i n S [] 0
 | kid (S':Tr) (q j:Nat) (h:n.kind≠1) (hj:(K q)[j]? = some i) (hc:Cutd S S' (K q) q j i):RemT S K i n S' [recC 2 (S.hd q) (S.hd i) n.prev n.next (j:Int) [] [] false 0 0] 0
theorem cutN_id (S:Tr){l:List Nat}{p j k y:Nat}(n:Nd)(h1:y≠k)(h2:y≠p)(h3:l[j+1]?≠some y)(h4:pv l j≠some y):cutN S l p j k y n=n:=by
 unfold cutN
 simp only [h1,h2,h3,h4,if_false,false_and]
theorem linkN_id2 (S:Tr){l:List Nat}{p j k y:Nat}(n:Nd)(h1:y≠k)(h2:y≠p)(h3:l[j]?≠some y)(h4:pv l j≠some y):linkN S l p j k y n=n:=by
 unfold linkN
 simp only [h1,h2,h3,h4,if_false,false_and]
theorem pv_mem {l:List Nat}{j y:Nat}(h:pv l j=some y):y∈l:=by
 unfold pv at h
 split at h
 ·cases h
 ·exact List.mem_of_getElem? h
end
section
variable {ex : Prop} {E : Nat → Prop} {c x : Nat} {S : Tr} {K : Nat → List Nat} {d : Nat → Nat} {M : List MN} {σ : Nat → Nat} {R : Nat} {sv fv : Value} {w : World}
theorem trem_any (h:TAt 0 R S sv fv w)(L:Lk S K d)(i:Nat)(n:Nd)(hi:S.at i=some n):Calls Tryz.prog 15 #[.pointer (some ⟨R,0,none⟩),.int .i64 (S.hd i)] w (OpT R S sv fv w (RemT S K i n)):=by
 obtain⟨g,cap,rfl⟩:=slots_some h (by have:=at_lt hi;omega)
 by_cases hk:n.kind=1
 ·refine(remove_doc h L i n hi hk).mono ?_
  rintro e w' ⟨rfl,hb⟩
  exact opT_nil h hb (.doc hk)
 ·rcases L.parO i with ⟨q,hq⟩ | ht
  ·obtain⟨j,hj⟩:=List.mem_iff_getElem?.1 hq
   refine(remove_kid h L q j i n hi hk hj).mono ?_
   rintro e w' ⟨S',v,hc,rfl,hrc,hT,hC⟩
   exact opT_of (.kid S' q j hk hj hc) hrc hT hc.len hC (fun k hk=>.inl (trF_map _ (keeps_cut _ _ _ _ _) hc.at_ k hk)) ⟨[⟨2,S.hd q,S.hd i,n.prev,n.next,j,[],[],false,0,0⟩],rfl⟩
  ·refine(remove_top h L i n hi hk ht).mono ?_
   rintro e w' ⟨rfl,hb⟩
   exact opT_nil h hb (.top hk ht)
theorem cut_E (L:Lk S K d)(cl:∀p k,k∈K p→(E p↔E k)){q j i:Nat}(hj:(K q)[j]? = some i)(hi:¬E i){S':Tr}(hc:Cutd S S' (K q) q j i):(∀y,E y→S'.at y=S.at y∧cutK K q j y=K y)∧(∀p k,k∈cutK K q j p→(E p↔E k)):=by
 have hq:¬E q:=fun h=>hi ((cl q i (List.mem_of_getElem? hj)).1 h)
 refine⟨keep_of cl (cutN S (K q) q j i) hc.at_ (fun y n hy hn=>cutN_id S n (fun e=>hi (e ▸ hy)) (fun e=>hq (e ▸ hy)) (fun e=>hq ((cl q y (List.mem_of_getElem? e)).2 hy)) (fun e=>hq ((cl q y (pv_mem e)).2 hy))) (fun y hy=>?_),fun p k hk=>cl p k (cutK_mem hk)⟩
 unfold cutK
 rw [if_neg (fun e=>hq (by rw [← e];exact hy))]
theorem both_rem (T:TrOk c S K d)(W:Tw ex E c S K M σ)(cl:∀p k,k∈K p→(E p↔E k)){i:Nat}{mi:MN}{n:Nd}(hi:lv M i=some mi)(hn:S.at (σ i)=some n){S':Tr}{ls:List (List Value)}{er en:Int}{M':List MN}{rs:List Rc}
  (ht:RemT S K (σ i) n S' ls er)(hm:MRem M i mi M' rs en):Both ex E c S K M σ S' ls er M' rs en:=by
 have hE:=W.off i mi hi
 rcases tw_rem W T hi hn hm with ⟨rfl,rfl,rfl,h4⟩ | ⟨rfl,rfl,rfl,h4,h5⟩ | ⟨rfl,h4,q,j,hj,hrs,hS⟩
 ·cases ht with
  | doc h=>exact both_nil T W cl 10
  | top h _=>exact absurd h4 h
  | kid S' q j h _ _=>exact absurd h4 h
 ·cases ht with
  | doc h=>exact absurd h h4
  | top h _=>exact both_nil T W cl 0
  | kid S' q j h hj _=>exact absurd (List.mem_of_getElem? hj) (h5 q)
 ·cases ht with
  | doc h=>exact absurd h h4
  | top _ h=>exact absurd (List.mem_of_getElem? hj) (h q)
  | kid S' q' j' _ hj' hc =>
   have e:=T.lk.one_par (List.mem_of_getElem? hj) (List.mem_of_getElem? hj')
   subst e
   have e:=T.lk.inj hj hj'
   subst e
   obtain⟨T',W'⟩:=hS S' hc
   obtain⟨k1,k2⟩:=cut_E T.lk cl hj hE hc
   have hok:∀r∈rs,RcOk M r:=by
    cases hm with
    | top _ _=>intro r hr;cases hr
    | cut q0 i0 mq _ h1 h2 h3 =>
     intro r hr
     simp only [List.mem_singleton] at hr
     subst hr
     exact⟨fld_some h2,fld_some hi,fld_pv W h2 _,fld_kid W h2 _⟩
   have hl:M'.length=M.length∧∀i,(lv M' i).isSome=(lv M i).isSome:=by
    cases hm with
    | top _ _=>exact⟨rfl,fun _=>rfl⟩
    | cut q0 i0 mq _ h1 h2 h3=>exact⟨by unfold cutM;rw [List.length_mapIdx],lv_cut_isSome⟩
   refine⟨⟨rs.map (trR S σ),by rw [hrs,List.map_map];rfl,?_,fun _=>⟨rfl,rfl⟩,fun _=>.same rfl hok⟩,⟨_,_,T'.mono (Nat.le_succ c),W'.mono (Nat.le_succ c),k1,k2⟩,hc.b,hc.s,by unfold Tr.fl;rw [hc.free,hc.len],hl.1,hl.2⟩
   rw [List.length_map]
   have:=congrArg List.length hrs
   rw [List.length_map] at this
   rw [← this];simp
inductive InsT (S:Tr) (K:Nat→List Nat) (d:Nat→Nat) (p i:Nat) (o:Option Nat) (np ni:Nd):Tr→List (List Value)→Int→Prop
 | no (h:mayB S K d p i np ni=false):InsT S K d p i o np ni S [] 10
 | other (b:Nat) (h:mayB S K d p i np ni=true) (e:o=some b) (hb:b∉K p):InsT S K d p i o np ni S [] 10
 | far (h:mayB S K d p i np ni=true) (ho:∀b,o=some b→b∈K p) (hd:128 < d p+hgt K (128 - d i) i):InsT S K d p i o np ni S [] 5
 | ok (S':Tr) (K':Nat→List Nat) (ls:List (List Value)) (h:mayB S K d p i np ni=true) (ho:∀b,o=some b→b∈K p) (hd:d p+hgt K (128 - d i) i≤128) (hout:InsOut S K i p o ni S' K' ls) (hL:Lk S' K' (dIns S d p i)):InsT S K d p i o np ni S' ls 0
theorem par_not (L:Lk S K d){p b:Nat}{nb np:Nd}(hb:S.at b=some nb)(hp:S.at p=some np)(hn:b∉K p):nb.parent≠S.hd p:=fun e=>by
 rcases L.parO b with ⟨q,hq⟩ | ht
 ·obtain⟨j,hj⟩:=List.mem_iff_getElem?.1 hq
  have h1:=(L.kid q j b nb hj hb).1
  obtain⟨nq,hnq⟩:=Option.isSome_iff_exists.1 (L.kin q b hq).1
  have:=at_lt hnq
  have:=at_lt hp
  have:=L.few
  have e2:=hdl_inj (b:=S.b) (s:=S.s) (i:=q) (j:=p) (by omega) (by omega) (h1.symm.trans e)
  exact hn (e2 ▸ hq)
 ·have h1:=(L.top b nb hb ht).1
  have:=(hd_ok L hp).2
  omega
theorem tins_any (h:TAt 0 R S sv fv w)(L:Lk S K d)(p i:Nat)(o:Option Nat)(np ni:Nd)(hp:S.at p=some np)(hi:S.at i=some ni)(ho:∀b,o=some b→(S.at b).isSome=true) :
  Calls Tryz.prog 16 #[.pointer (some ⟨R,0,none⟩),.int .i64 (S.hd p),.int .i64 (S.hd i),.int .i64 (hO S o)] w (OpT R S sv fv w (InsT S K d p i o np ni)):=by
 obtain⟨g,cap,rfl⟩:=slots_some h (by have:=at_lt hi;omega)
 cases hmay:mayB S K d p i np ni with
 | false =>
  refine(insert_no h L p i o np ni hp hi ho hmay).mono ?_
  rintro e w' ⟨rfl,hb⟩
  exact opT_nil h hb (.no hmay)
 | true =>
  by_cases hin:∀b,o=some b→b∈K p
  ·by_cases hdep:d p+hgt K (128 - d i) i≤128
   ·refine(insert_ok h L p i o np ni hp hi hin hmay hdep).mono ?_
    rintro e w' ⟨S',K',v,ls,hout,hL',rfl,hrc,hT,hC⟩
    have hx:S'.slots.length=S.slots.length∧∀k,trF R S' (.slice (some ⟨g,0,none⟩) S.slots.length cap) fv k→trF R S (.slice (some ⟨g,0,none⟩) S.slots.length cap) fv k∨w.heap.size≤k:=by
     cases id hout with
     | det j h1 h2 h3 h4 h5=>exact⟨h3.len,fun k hk=>.inl (trF_map _ (keeps_link _ _ _ _ _) h3.at_ k hk)⟩
     | att q t j S1 o' h1 h2 h3 h4 h5 h6 h7=>exact⟨h5.len.trans h2.len,fun k hk=>.inl (trF_map _ (keeps_cut _ _ _ _ _) h2.at_ k (trF_map _ (keeps_link _ _ _ _ _) h5.at_ k hk))⟩
    have hls:∃ts:List Rc,ls=ts.map encR:=by
     cases id hout with
     | det j h1 h2 h3 h4 h5=>subst h5;exact⟨[⟨1,S.hd p,S.hd i,_,_,j,[],[],false,0,0⟩],rfl⟩
     | att q t j S1 o' h1 h2 h3 h4 h5 h6 h7=>subst h7;exact⟨[⟨2,S.hd q,S.hd i,ni.prev,ni.next,t,[],[],false,0,0⟩,⟨1,S.hd p,S.hd i,_,_,j,[],[],false,0,0⟩],rfl⟩
    exact opT_of (.ok S' K' ls hmay hin hdep hout hL') hrc hT hx.1 hC hx.2 hls
   ·refine(insert_far h L p i o np ni hp hi hin hmay (by omega)).mono ?_
    rintro e w' ⟨rfl,hb⟩
    exact opT_nil h hb (.far hmay hin (by omega))
  ·obtain⟨b,rfl,hb⟩:∃b,o=some b∧b∉K p:=by
    cases o with
    | none=>exact absurd (fun b hb=>by cases hb) hin
    | some b=>exact⟨b,rfl,fun hb=>hin (fun b' e=>by cases e;exact hb)⟩
   obtain⟨nb,hnb⟩:=Option.isSome_iff_exists.1 (ho b rfl)
   refine(insert_other h L p i b np ni nb hp hi hnb hmay (par_not L hnb hp hb)).mono ?_
   rintro e w' ⟨rfl,hb'⟩
   exact opT_nil h hb' (.other b hmay rfl hb)
theorem kid_iff (W:Tw ex E c S K M σ){p b:Nat}{mp mb:MN}(hp:lv M p=some mp)(hb:lv M b=some mb):σ b∈K (σ p)↔mb.par=some p:=by
 rw [W.kids p mp hp]
 constructor
 ·intro h
  obtain⟨k,hk,e⟩:=List.mem_map.1 h
  obtain⟨mk,h1,h2⟩:=W.kid p mp k hp hk
  have:=W.inj k b mk mb h1 hb e
  subst this
  rw [hb] at h1;cases h1;exact h2
 ·intro h
  obtain⟨mq,h1,h2⟩:=W.par b mb p hb h
  rw [hp] at h1;cases h1
  exact List.mem_map.2 ⟨b,h2,rfl⟩
theorem both_ins (T:TrOk c S K d)(W:Tw ex E c S K M σ)(cl:∀p k,k∈K p→(E p↔E k)){p i:Nat}{o:Option Nat}{mp mi:MN}{np ni:Nd}(hp:lv M p=some mp)(hi:lv M i=some mi)(hnp:S.at (σ p)=some np)(hni:S.at (σ i)=some ni)(hol:∀q,o=some q→∃mq,lv M q=some mq){S':Tr}{ls:List (List Value)}{er en:Int}{M':List MN}{rs:List Rc}
  (ht:InsT S K d (σ p) (σ i) (o.map σ) np ni S' ls er)(hm:MInsA M (fun i=>d (σ i)) p i o mp mi M' rs en):Both ex E c S K M σ S' ls er M' rs en:=by
 have hEp:=W.off p mp hp
 have hEi:=W.off i mi hi
 have hmay:=W.may T hp hi hnp hni
 have hgt':=W.hgt (128 - d (σ i)) i mi hi
 have hin:∀b mb,lv M b=some mb→(σ b∈K (σ p)↔mb.par=some p):=fun b mb hb=>kid_iff W hp hb
 cases ht with
 | no h =>
  rw [hmay] at h
  cases hm with
  | no _=>exact both_nil T W cl 10
  | other b mb h2 _ _ _=>rw [h] at h2;cases h2
  | far h2 _ _=>rw [h] at h2;cases h2
  | ok M' rs h2 _ _ _=>rw [h] at h2;cases h2
 | other b h e hb =>
  rw [hmay] at h
  obtain⟨b',rfl,rfl⟩:=Option.map_eq_some_iff.1 e
  cases hm with
  | no h2=>rw [h] at h2;cases h2
  | other b2 mb _ e2 _ _=>exact both_nil T W cl 10
  | far _ ho _=>obtain⟨mb,h1,h2⟩:=ho b' rfl;exact absurd ((hin b' mb h1).2 h2) hb
  | ok M' rs _ ho _ _=>obtain⟨mb,h1,h2⟩:=ho b' rfl;exact absurd ((hin b' mb h1).2 h2) hb
 | far h ho hd =>
  rw [hmay] at h
  cases hm with
  | no h2=>rw [h] at h2;cases h2
  | other b2 mb _ e2 hb hpb=>exact absurd ((hin b2 mb hb).1 (ho (σ b2) (by rw [e2];rfl))) hpb
  | far _ _ _=>exact both_nil T W cl 5
  | ok M' rs _ _ hd2 _=>rw [hgt'] at hd;have hd2:d (σ p)+_≤128:=hd2;omega
 | ok S' K' ls h ho hd hout hL =>
  have h':=h
  rw [hmay] at h
  cases hm with
  | no h2=>rw [h] at h2;cases h2
  | other b2 mb _ e2 hb hpb=>exact absurd ((hin b2 mb hb).1 (ho (σ b2) (by rw [e2];rfl))) hpb
  | far _ _ hd2=>rw [hgt'] at hd;have hd2:128 < d (σ p)+_:=hd2;omega
  | ok M' rs _ hoM _ hmi =>
   obtain⟨W',hls,hb,hs⟩:=W.ins T hp hi hnp hni h' hoM hout hmi
   have T':=T.ins hnp hni h' hout hL
   have hok:(∀r∈rs,RcOk M r)∧rs.length≤2∧M'.length=M.length∧∀i,(lv M' i).isSome=(lv M i).isSome:=by
    cases hmi with
    | det mp' j h1 h2 h3 =>
     refine⟨fun r hr=>?_,by simp,by unfold linkM;rw [List.length_mapIdx],lv_link_isSome⟩
     simp only [List.mem_singleton] at hr
     subst hr
     exact⟨fld_some h2,fld_some hi,fld_pv W h2 _,fld_kid W h2 _⟩
    | att q t j mq mp' o' h1 h2 h3 h4 h5 h6 =>
     have hcp:=lv_cut' h4
     obtain⟨m0,hm0,hmp'⟩:=hcp
     have hsub:∀z∈mp'.kids,z∈m0.kids:=fun z hz=>by
      rw [hmp'] at hz
      simp only at hz
      split at hz
      ·exact List.mem_of_mem_eraseIdx hz
      ·exact hz
     have f1:∀t,FldOk M (pI mp'.kids[t]?):=fun t=>⟨_,rfl,fun z hz=>by
      obtain⟨mz,h,_⟩:=W.kid p m0 z hm0 (hsub z (List.mem_of_getElem? hz));exact⟨mz,h⟩⟩
     have f2:∀t,FldOk M (pI (pv mp'.kids t)):=fun t=>⟨_,rfl,fun z hz=>by
      obtain⟨mz,h,_⟩:=W.kid p m0 z hm0 (hsub z (pv_mem hz));exact⟨mz,h⟩⟩
     refine⟨fun r hr=>?_,by simp,by unfold linkM cutM;rw [List.length_mapIdx,List.length_mapIdx],fun z=>by rw [lv_link_isSome,lv_cut_isSome]⟩
     simp only [List.mem_cons,List.not_mem_nil,or_false] at hr
     rcases hr with rfl | rfl
     ·exact⟨fld_some h2,fld_some hi,fld_pv W h2 _,fld_kid W h2 _⟩
     ·exact⟨fld_some hp,fld_some hi,f2 _,f1 _⟩
   have hst:(∀y,E y→S'.at y=S.at y∧K' y=K y)∧(∀p k,k∈K' p→(E p↔E k))∧S'.fl=S.fl:=by
    cases hout with
    | det j h1 h2 h3 h4 h5 =>
     subst h4
     refine⟨keep_of cl (linkN S (K (σ p)) (σ p) j (σ i)) h3.at_ (fun y n hy hn=>linkN_id2 S n (fun e=>hEi (e ▸ hy)) (fun e=>hEp (e ▸ hy)) (fun e=>hEp ((cl _ y (List.mem_of_getElem? e)).2 hy)) (fun e=>hEp ((cl _ y (pv_mem e)).2 hy))) (fun y hy=>?_),hang_E W cl hEp hEi (fun q z hz=>linkK_mem hz),linked_fl h3⟩
     unfold linkK
     rw [if_neg (fun e=>hEp (by rw [← e];exact hy))]
    | att q t j S1 o' h1 h2 h3 h4 h5 h6 h7 =>
     subst h6
     obtain⟨k1,k2⟩:=cut_E T.lk cl h1 hEi h2
     have k3:=keep_of (S:=S1) (K:=cutK K q t) k2 (linkN S1 (cutK K q t (σ p)) (σ p) j (σ i)) h5.at_ (K':=linkK (cutK K q t) (σ p) j (σ i)) (fun y n hy hn=>linkN_id2 S1 n (fun e=>hEi (e ▸ hy)) (fun e=>hEp (e ▸ hy)) (fun e=>hEp ((k2 _ y (List.mem_of_getElem? e)).2 hy)) (fun e=>hEp ((k2 _ y (pv_mem e)).2 hy))) (fun y hy=>by
      unfold linkK
      rw [if_neg (fun e=>hEp (by rw [← e];exact hy))])
     refine⟨fun y hy=>⟨(k3 y hy).1.trans (k1 y hy).1,(k3 y hy).2.trans (k1 y hy).2⟩,hang_E W cl hEp hEi (fun q' z hz=>(linkK_mem hz).imp (fun h=>cutK_mem h) id),?_⟩
     rw [linked_fl h5]
     unfold Tr.fl;rw [h2.free,h2.len]
   refine⟨⟨rs.map (trR S σ),by rw [hls,List.map_map];rfl,by rw [List.length_map];omega,fun _=>⟨rfl,rfl⟩,fun _=>.same rfl hok.1⟩,⟨K',_,T'.mono (Nat.le_succ c),W'.mono (Nat.le_succ c),hst.1,hst.2.1⟩,hb,hs,hst.2.2,hok.2.2.1,hok.2.2.2⟩
end
section
variable {ex : Prop} {E : Nat → Prop} {c x : Nat} {S : Tr} {K : Nat → List Nat} {d : Nat → Nat} {M : List MN} {σ : Nat → Nat} {R : Nat} {sv fv : Value} {w : World}
theorem put_len' {i:Nat}{n:Nd}:(S.put i n).slots.length=S.slots.length:=put_len S i n
theorem tset_any (h:TAt 0 R S sv fv w)(L:Lk S K d)(i:Nat)(n:Nd)(hi:S.at i=some n)(hl:n.attrs.length≤64)(name val:List UInt8)(hn:name.length≤1000)(hv:val.length≤1000)(hT:Laid w) :
  Calls Tryz.prog 18 #[.pointer (some ⟨R,0,none⟩),.int .i64 (S.hd i),strV name,strV val] w (OpT R S sv fv w (fun S' ls er=>∃W0 v,SetX W0 S i n name val S' v er ls)):=by
 obtain⟨g,cap,rfl⟩:=slots_some h (by have:=at_lt hi;omega)
 refine(setAttr_any h L i n hi hl name val hn hv hT).mono ?_
 rintro e w' ⟨S',v,er,ls,hx,rfl,hrc,hT',hC⟩
 have hf:S'.slots.length=S.slots.length∧∀k,trF R S' (.slice (some ⟨g,0,none⟩) S.slots.length cap) fv k→trF R S (.slice (some ⟨g,0,none⟩) S.slots.length cap) fv k∨w.heap.size≤k:=by
  cases id hx with
  | kind _=>exact⟨rfl,fun k hk=>.inl hk⟩
  | arg _ _=>exact⟨rfl,fun k hk=>.inl hk⟩
  | full _ _ _ _=>exact⟨rfl,fun k hk=>.inl hk⟩
  | add v av _ _ _ _ hfr=>exact⟨put_len',fun k hk=>trF_put hi (fun k hk=>.inr (hfr k hk)) k hk⟩
  | set v av k y _ _ _ _ hfr=>exact⟨put_len',fun k hk=>trF_put hi (fun k hk=>.inr (hfr k hk)) k hk⟩
 have hls:∃ts:List Rc,ls=ts.map encR:=by
  cases id hx with
  | kind _=>exact⟨[],rfl⟩
  | arg _ _=>exact⟨[],rfl⟩
  | full _ _ _ _=>exact⟨[],rfl⟩
  | add v av _ _ _ _ hfr=>exact⟨[⟨3,S.hd i,0,0,0,0,name,[],false,0,0⟩],rfl⟩
  | set v av k y _ _ _ _ hfr=>exact⟨[⟨3,S.hd i,0,0,0,0,name,y.2,true,0,0⟩],rfl⟩
 exact opT_of ⟨_,v,hx⟩ hrc hT' hf.1 hC hf.2 hls
theorem tdrp_any (h:TAt 0 R S sv fv w)(L:Lk S K d)(i:Nat)(n:Nd)(hi:S.at i=some n)(hl:n.attrs.length≤64)(name:List UInt8) :
  Calls Tryz.prog 17 #[.pointer (some ⟨R,0,none⟩),.int .i64 (S.hd i),strV name] w (OpT R S sv fv w (fun S' ls er=>∃W0 v,DrpX W0 S i n name S' v er ls)):=by
 obtain⟨g,cap,rfl⟩:=slots_some h (by have:=at_lt hi;omega)
 refine(dropAttr_any h L i n hi hl name).mono ?_
 rintro e w' ⟨S',v,er,ls,hx,rfl,hrc,hT',hC⟩
 have hf:S'.slots.length=S.slots.length∧∀k,trF R S' (.slice (some ⟨g,0,none⟩) S.slots.length cap) fv k→trF R S (.slice (some ⟨g,0,none⟩) S.slots.length cap) fv k∨w.heap.size≤k:=by
  cases id hx with
  | kind _=>exact⟨rfl,fun k hk=>.inl hk⟩
  | no _ _=>exact⟨rfl,fun k hk=>.inl hk⟩
  | cut v av k y _ _ _ hfr=>exact⟨put_len',fun k hk=>trF_put hi (fun k hk=>.inr (hfr k hk)) k hk⟩
 have hls:∃ts:List Rc,ls=ts.map encR:=by
  cases id hx with
  | kind _=>exact⟨[],rfl⟩
  | no _ _=>exact⟨[],rfl⟩
  | cut v av k y _ _ _ hfr=>exact⟨[⟨3,S.hd i,0,0,0,0,name,y.2,true,0,0⟩],rfl⟩
 exact opT_of ⟨_,v,hx⟩ hrc hT' hf.1 hC hf.2 hls
theorem trep_any (h:TAt 0 R S sv fv w)(L:Lk S K d)(i:Nat)(n:Nd)(hi:S.at i=some n)(hk:n.kind=1∨n.kind=2∨n.kind=3∨n.kind=4)(hl:n.data.length≤1048576)(ix cnt:Int)(h0:-1000≤ix)(h1:ix≤1000)(h2:-2000000≤cnt)(h3:cnt≤2000000)(s:List UInt8)(hs:s.length≤100000)(hT:Laid w) :
  Calls Tryz.prog 19 #[.pointer (some ⟨R,0,none⟩),.int .i64 (S.hd i),.int .i64 ix,.int .i64 cnt,strV s] w (OpT R S sv fv w (fun S' ls er=>∃v,RepX S i n ix cnt s S' v er ls)):=by
 obtain⟨g,cap,rfl⟩:=slots_some h (by have:=at_lt hi;omega)
 refine(replace_x h L i n hi hk hl ix cnt h0 h1 h2 h3 s hs hT).mono ?_
 rintro e w' ⟨S',v,er,ls,hx,rfl,hrc,hT',hC⟩
 have hf:S'.slots.length=S.slots.length∧∀k,trF R S' (.slice (some ⟨g,0,none⟩) S.slots.length cap) fv k→trF R S (.slice (some ⟨g,0,none⟩) S.slots.length cap) fv k∨w.heap.size≤k:=by
  cases id hx with
  | kind _=>exact⟨rfl,fun k hk=>.inl hk⟩
  | rng _ _=>exact⟨rfl,fun k hk=>.inl hk⟩
  | long _ _=>exact⟨rfl,fun k hk=>.inl hk⟩
  | yes v _ _ _ _=>exact⟨put_len',fun k hk=>trF_put (n':={ n with data:=repD n.data ix cnt s }) hi (fun k hk=>.inl ⟨hk,id⟩) k hk⟩
 have hls:∃ts:List Rc,ls=ts.map encR:=by
  cases id hx with
  | kind _=>exact⟨[],rfl⟩
  | rng _ _=>exact⟨[],rfl⟩
  | long _ _=>exact⟨[],rfl⟩
  | yes v _ _ _ _=>exact⟨[⟨4,S.hd i,0,0,0,ix,[],n.data,false,_,_⟩],rfl⟩
 exact opT_of ⟨v,hx⟩ hrc hT' hf.1 hC hf.2 hls
/-! ### both -/
inductive PutT (S:Tr) (i:Nat) (n:Nd):Tr→Prop
 | same:PutT S i n S
 | put (n':Nd):PutT S i n (S.put i n')
theorem PutT.facts {i:Nat}{n:Nd}(hi:S.at i=some n){S':Tr}(h:PutT S i n S'):S'.b=S.b∧S'.s=S.s∧S'.fl=S.fl∧∀y,y≠i→S'.at y=S.at y:=by
 cases h with
 | same=>exact⟨rfl,rfl,rfl,fun _ _=>rfl⟩
 | put n'=>exact⟨rfl,rfl,by unfold Tr.fl;rw [put_len];rfl,fun y hy=>by rw [at_put hi,if_neg hy]⟩
inductive PutM (M:List MN) (i:Nat):List MN→Prop
 | same:PutM M i M
 | put (m':MN) (h:m'.gone=false):PutM M i (M.set i m')
theorem PutM.facts {i:Nat}{m:MN}(hi:lv M i=some m){M':List MN}(h:PutM M i M'):M'.length=M.length∧∀j,(lv M' j).isSome=(lv M j).isSome:=by
 cases h with
 | same=>exact⟨rfl,fun _=>rfl⟩
 | put m' hg=>exact⟨by simp,lv_set_isSome hi hg⟩
theorem both_put (W:Tw ex E c S K M σ)(cl:∀p k,k∈K p→(E p↔E k)){i:Nat}{m:MN}{n:Nd}(hi:lv M i=some m)(hn:S.at (σ i)=some n){S':Tr}{M':List MN}{ls:List (List Value)}{er en:Int}{rs:List Rc}(h1:PutT S (σ i) n S')(h2:PutM M i M')(T':TrOk (c+1) S' K d)(W':Tw ex E (c+1) S' K M' σ)
  (hr:∃ts:List Rc,ls=ts.map encR∧ts.length≤100∧(ex→er=en∧ts=rs.map (trR S σ))∧(er=en→MatchQ M S σ ts rs)):Both ex E c S K M σ S' ls er M' rs en:=by
 obtain⟨f1,f2,f3,f4⟩:=h1.facts hn
 obtain⟨f5,f6⟩:=h2.facts hi
 exact⟨hr,⟨K,d,T',W',fun y hy=>⟨f4 y (fun e=>W.off i m hi (e ▸ hy)),rfl⟩,cl⟩,f1,f2,f3,f5,f6⟩
theorem rcA_ok {i:Nat}{m:MN}(hi:lv M i=some m)(nm old:List UInt8)(had:Bool):∀r∈[rcA i nm old had],RcOk M r:=fun r hr=>by
 simp only [List.mem_singleton] at hr
 subst hr
 exact⟨fld_some hi,fld_neg,fld_neg,fld_neg⟩
theorem put_self {i:Nat}{n:Nd}(hi:S.at i=some n):S.put i n=S:=by
 have h:=at_slot hi
 unfold Tr.put
 have:S.slots.set i (some n)=S.slots:=by
  apply List.ext_getElem?
  intro j
  rw [List.getElem?_set]
  split
  ·rename_i e;subst e
   split
   ·exact h.symm
   ·rename_i h2;rw [List.getElem?_eq_none (by omega)]
  ·rfl
 rw [this]
theorem set_self {i:Nat}{m:MN}(hi:lv M i=some m):M.set i m=M:=by
 have h:=(lv_at hi).1
 apply List.ext_getElem?
 intro j
 rw [List.getElem?_set]
 split
 ·rename_i e;subst e
  split
  ·exact h.symm
  ·rename_i h2;rw [List.getElem?_eq_none (by omega)]
 ·rfl
theorem Tw.part (hx:¬ex)(W:Tw ex E c S K M σ){i:Nat}{m m':MN}{n n':Nd}(hi:lv M i=some m)(hn:S.at (σ i)=some n)(h1:n'.kind=n.kind)(h2:n'.name=n.name)(h3:n'.data=n.data)(g1:m'.kind=m.kind)(g2:m'.name=m.name)(g3:m'.data=m.data)(g4:m'.par=m.par)(g5:m'.kids=m.kids)(g6:m'.gone=m.gone)(hm:m'.attrs.length≤c+2) :
  Tw ex E c (S.put (σ i) n') K (M.set i m') σ:=by
 obtain⟨n0,hn0,a1,a2,a3,_⟩:=W.node i m hi
 rw [hn] at hn0;cases hn0
 exact W.put hi hn (h1.trans (a1.trans g1.symm)) (h2.trans (a2.trans g2.symm)) (h3.trans (a3.trans g3.symm)) (fun e=>absurd e hx) g4 g5 (g6.trans (lv_at hi).2) hm
theorem trSet (T:TrOk c S K d){i:Nat}{n:Nd}(hn:S.at i=some n){W0:Nat}{S':Tr}{name val:List UInt8}{v:Value}{er:Int}{ls:List (List Value)}(ht:SetX W0 S i n name val S' v er ls)(hna:name.length≤200)(hva:val.length≤50):TrOk c S' K d∧∃n',S'=S.put i n'∧n'.kind=n.kind∧n'.name=n.name∧n'.data=n.data:=by
 have hok:=T.nd _ n hn
 have hfx:=fix_len val
 have hnew:headB name=true→headB name=true∧Lib.validD (fix val)=true∧name.length≤200∧(fix val).length≤200:=fun h=>⟨h,fix_valid _,hna,by omega⟩
 cases ht with
 | kind h=>exact⟨T,n,(put_self hn).symm,rfl,rfl,rfl⟩
 | arg _ _=>exact⟨T,n,(put_self hn).symm,rfl,rfl,rfl⟩
 | full _ _ _ _=>exact⟨T,n,(put_self hn).symm,rfl,rfl,rfl⟩
 | add v av hk h h1 h2 hfr =>
  refine⟨T.put hn rfl rfl rfl rfl rfl rfl (hok.attrs hk av _ (fun a ha=>?_) ?_ (by simp;omega)),_,rfl,rfl,rfl,rfl⟩
  ·rcases List.mem_append.1 ha with ha | ha
   ·exact hok.at_ a ha
   ·rw [List.mem_singleton] at ha;subst ha;exact hnew h
  ·rw [List.map_append,List.nodup_append]
   refine⟨hok.nd,by simp,fun a ha b hb e=>?_⟩
   simp at hb
   subst hb e
   exact nmOf_neg h1 ha
 | set v av k y hk h h1 h2 hfr =>
  have hyn:=nmOf_at h1 h2
  refine⟨T.put hn rfl rfl rfl rfl rfl rfl (hok.attrs hk av _ (fun a ha=>?_) ?_ (by simp;exact hok.al)),_,rfl,rfl,rfl,rfl⟩
  ·rcases mem_set_or ha with e | ha
   ·subst e;rw [hyn];exact hnew h
   ·exact hok.at_ a ha
  ·rw [map_set_same h2];exact hok.nd
theorem both_set (T:TrOk c S K d)(W:Tw ex E c S K M σ)(cl:∀p k,k∈K p→(E p↔E k))(hce:ex→c≤60){i:Nat}{m:MN}{n:Nd}(hi:lv M i=some m)(hn:S.at (σ i)=some n){name val:List UInt8}{S':Tr}{ls:List (List Value)}{er en:Int}{M':List MN}{rs:List Rc}
  (ht:∃W0 v,SetX W0 S (σ i) n name val S' v er ls)(hm:MSet M i m name val M' rs en)(hna:name.length≤200)(hva:val.length≤50):Both ex E c S K M σ S' ls er M' rs en:=by
 obtain⟨W0,v,ht⟩:=ht
 have hg:=(lv_at hi).2
 have hPT:PutT S (σ i) n S':=by
  cases ht with
  | kind _=>exact .same
  | arg _ _=>exact .same
  | full _ _ _ _=>exact .same
  | add v av _ _ _ _ _=>exact .put _
  | set v av k y _ _ _ _ _=>exact .put _
 have hPM:PutM M i M':=by
  cases hm with
  | kind _=>exact .same
  | arg _ _=>exact .same
  | add _ _ _=>exact .put _ hg
  | set k y _ _ _ _=>exact .put _ hg
 by_cases hx:ex
 ·have W1:Tw True E c S K M σ:=W.weak (fun _=>hx)
  obtain⟨e1,e2,e3,e4⟩:=W1.setA T hi hn hm ht hna hva (hce hx)
  have hok:(∀r∈rs,RcOk M r)∧rs.length≤1:=by
   cases hm with
   | kind _=>exact⟨by simp,by simp⟩
   | arg _ _=>exact⟨by simp,by simp⟩
   | add _ _ _=>exact⟨rcA_ok hi _ _ _,by simp⟩
   | set k y _ _ _ _=>exact⟨rcA_ok hi _ _ _,by simp⟩
  exact both_put W cl hi hn hPT hPM e3 (e4.weak (fun _=>trivial)) ⟨rs.map (trR S σ),by rw [e2,List.map_map];rfl,by rw [List.length_map];omega,fun _=>⟨e1,rfl⟩,fun _=>.same rfl hok.1⟩
 ·obtain⟨T',n',hS',k1,k2,k3⟩:=trSet T hn ht hna hva
  have hma:=W.ma i m hi
  have hW:Tw ex E (c+1) S' K M' σ:=by
   have W1:=W.mono (Nat.le_succ c)
   rw [hS']
   cases hm with
   | kind _=>have:=Tw.part hx W1 hi hn k1 k2 k3 rfl rfl rfl rfl rfl rfl (m':=m) (by omega);rwa [set_self hi] at this
   | arg _ _=>have:=Tw.part hx W1 hi hn k1 k2 k3 rfl rfl rfl rfl rfl rfl (m':=m) (by omega);rwa [set_self hi] at this
   | add _ _ _=>exact Tw.part hx W1 hi hn k1 k2 k3 rfl rfl rfl rfl rfl rfl (by simp;omega)
   | set k y _ _ _ _=>exact Tw.part hx W1 hi hn k1 k2 k3 rfl rfl rfl rfl rfl rfl (by simp;omega)
  have hq:∃ts:List Rc,ls=ts.map encR∧ts.length≤100∧MatchQ M S σ ts rs:=by
   have key:∀(o1 o2:List UInt8) (b1 b2:Bool),rs=[rcA i name o2 b2]→MatchQ M S σ [trR S σ (rcA i name o1 b1)] rs:=fun o1 o2 b1 b2 hrs=>by
    by_cases e:o1=o2∧b1=b2
    ·exact .same (by rw [hrs,e.1,e.2];rfl) (by rw [hrs];exact rcA_ok hi _ _ _)
    ·exact .old i name o1 o2 b1 b2 rfl hrs ⟨m,hi⟩ (by by_cases e1:o1=o2;exact .inr (fun e2=>e ⟨e1,e2⟩);exact .inl e1)
   cases ht with
   | kind _=>exact⟨[],rfl,by simp,by cases rs with | nil=>exact .same rfl (by simp) | cons r t=>exact .len (by simp)⟩
   | arg _ _=>exact⟨[],rfl,by simp,by cases rs with | nil=>exact .same rfl (by simp) | cons r t=>exact .len (by simp)⟩
   | full _ _ _ _=>exact⟨[],rfl,by simp,by cases rs with | nil=>exact .same rfl (by simp) | cons r t=>exact .len (by simp)⟩
   | add v av _ _ _ _ _ =>
    refine⟨[trR S σ (rcA i name [] false)],by simp [rcA_in],by simp,?_⟩
    cases hm with
    | kind _=>exact .len (by simp)
    | arg _ _=>exact .len (by simp)
    | add _ _ _=>exact key _ _ _ _ rfl
    | set k y _ _ _ _=>exact key _ _ _ _ rfl
   | set v av k y _ _ _ _ _ =>
    refine⟨[trR S σ (rcA i name y.2 true)],by simp [rcA_in],by simp,?_⟩
    cases hm with
    | kind _=>exact .len (by simp)
    | arg _ _=>exact .len (by simp)
    | add _ _ _=>exact key _ _ _ _ rfl
    | set k y _ _ _ _=>exact key _ _ _ _ rfl
  obtain⟨ts,q1,q2,q3⟩:=hq
  exact both_put W cl hi hn hPT hPM (T'.mono (Nat.le_succ c)) hW ⟨ts,q1,q2,fun h=>absurd h hx,fun _=>q3⟩
theorem both_drp (T:TrOk c S K d)(W:Tw ex E c S K M σ)(cl:∀p k,k∈K p→(E p↔E k)){i:Nat}{m:MN}{n:Nd}(hi:lv M i=some m)(hn:S.at (σ i)=some n){name:List UInt8}{S':Tr}{ls:List (List Value)}{er en:Int}{M':List MN}{rs:List Rc}
  (ht:∃W0 v,DrpX W0 S (σ i) n name S' v er ls)(hm:MDrp M i m name M' rs en):Both ex E c S K M σ S' ls er M' rs en:=by
 obtain⟨W0,v,ht⟩:=ht
 have hg:=(lv_at hi).2
 have hPT:PutT S (σ i) n S':=by
  cases ht with
  | kind _=>exact .same
  | no _ _=>exact .same
  | cut v av k y _ _ _ _=>exact .put _
 have hPM:PutM M i M':=by
  cases hm with
  | kind _=>exact .same
  | no _ _=>exact .same
  | cut k y _ _ _=>exact .put _ hg
 have hok:(∀r∈rs,RcOk M r)∧rs.length≤1:=by
  cases hm with
  | kind _=>exact⟨by simp,by simp⟩
  | no _ _=>exact⟨by simp,by simp⟩
  | cut k y _ _ _=>exact⟨rcA_ok hi _ _ _,by simp⟩
 by_cases hx:ex
 ·have W1:Tw True E c S K M σ:=W.weak (fun _=>hx)
  obtain⟨e1,e2,e3,e4⟩:=W1.drpA T hi hn hm ht
  exact both_put W cl hi hn hPT hPM (e3.mono (Nat.le_succ c)) ((e4.mono (Nat.le_succ c)).weak (fun _=>trivial)) ⟨rs.map (trR S σ),by rw [e2,List.map_map];rfl,by rw [List.length_map];omega,fun _=>⟨e1,rfl⟩,fun _=>.same rfl hok.1⟩
 ·have hma:=W.ma i m hi
  have hokn:=T.nd _ n hn
  have hT:TrOk c S' K d∧∃n',S'=S.put (σ i) n'∧n'.kind=n.kind∧n'.name=n.name∧n'.data=n.data:=by
   cases ht with
   | kind _=>exact⟨T,n,(put_self hn).symm,rfl,rfl,rfl⟩
   | no _ _=>exact⟨T,n,(put_self hn).symm,rfl,rfl,rfl⟩
   | cut v av k y hk h1 h2 hfr =>
    have hsub:(n.attrs.eraseIdx k).Sublist n.attrs:=List.eraseIdx_sublist _ _
    have hle:=hsub.length_le
    have hal:=hokn.al
    exact⟨T.put hn rfl rfl rfl rfl rfl rfl (hokn.attrs hk av _ (fun a ha=>hokn.at_ a (hsub.subset ha)) ((hsub.map _).nodup hokn.nd) (by omega)),_,rfl,rfl,rfl,rfl⟩
  obtain⟨T',n',hS',k1,k2,k3⟩:=hT
  have hW:Tw ex E (c+1) S' K M' σ:=by
   have W1:=W.mono (Nat.le_succ c)
   rw [hS']
   cases hm with
   | kind _=>have:=Tw.part hx W1 hi hn k1 k2 k3 rfl rfl rfl rfl rfl rfl (m':=m) (by omega);rwa [set_self hi] at this
   | no _ _=>have:=Tw.part hx W1 hi hn k1 k2 k3 rfl rfl rfl rfl rfl rfl (m':=m) (by omega);rwa [set_self hi] at this
   | cut k y _ _ _ =>
    have hle2:(m.attrs.eraseIdx k).length≤m.attrs.length:=(List.eraseIdx_sublist _ _).length_le
    exact Tw.part hx W1 hi hn k1 k2 k3 rfl rfl rfl rfl rfl rfl (by show(m.attrs.eraseIdx k).length≤_;omega)
  have hq:∃ts:List Rc,ls=ts.map encR∧ts.length≤100∧MatchQ M S σ ts rs:=by
   cases ht with
   | kind _=>exact⟨[],rfl,by simp,by cases rs with | nil=>exact .same rfl (by simp) | cons r t=>exact .len (by simp)⟩
   | no _ _=>exact⟨[],rfl,by simp,by cases rs with | nil=>exact .same rfl (by simp) | cons r t=>exact .len (by simp)⟩
   | cut v av k y _ _ _ _ =>
    refine⟨[trR S σ (rcA i name y.2 true)],by simp [rcA_in],by simp,?_⟩
    cases hm with
    | kind _=>exact .len (by simp)
    | no _ _=>exact .len (by simp)
    | cut k' y' _ _ _ =>
     by_cases e:y.2=y'.2
     ·exact .same (by rw [e];rfl) hok.1
     ·exact .old i name _ _ true true rfl rfl ⟨m,hi⟩ (.inl e)
  obtain⟨ts,q1,q2,q3⟩:=hq
  exact both_put W cl hi hn hPT hPM (T'.mono (Nat.le_succ c)) hW ⟨ts,q1,q2,fun h=>absurd h hx,fun _=>q3⟩
theorem both_rep (T:TrOk c S K d)(W:Tw ex E c S K M σ)(cl:∀p k,k∈K p→(E p↔E k))(hc:c≤600){i:Nat}{m:MN}{n:Nd}(hi:lv M i=some m)(hn:S.at (σ i)=some n){ix cnt:Int}{s:List UInt8}{S':Tr}{ls:List (List Value)}{er en:Int}{M':List MN}{rs:List Rc}
  (ht:∃v,RepX S (σ i) n ix cnt s S' v er ls)(hm:MRep M i m ix cnt s M' rs en)(hs:s.length≤60):Both ex E c S K M σ S' ls er M' rs en:=by
 obtain⟨v,ht⟩:=ht
 have hg:=(lv_at hi).2
 have hPT:PutT S (σ i) n S':=by
  cases ht with
  | kind _=>exact .same
  | rng _ _=>exact .same
  | long _ _=>exact .same
  | yes v _ _ _ _=>exact .put _
 have hPM:PutM M i M':=by
  cases hm with
  | kind _=>exact .same
  | rng _ _=>exact .same
  | yes _ _ _ _=>exact .put _ hg
 have hok:(∀r∈rs,RcOk M r)∧rs.length≤1:=by
  cases hm with
  | kind _=>exact⟨by simp,by simp⟩
  | rng _ _=>exact⟨by simp,by simp⟩
  | yes _ _ _ _=>exact⟨fun r hr=>by simp only [List.mem_singleton] at hr;subst hr;exact⟨fld_some hi,fld_neg,fld_neg,fld_neg⟩,by simp⟩
 obtain⟨e1,e2,e3,e4⟩:=W.rep T hi hn hm ht hs hc
 exact both_put W cl hi hn hPT hPM e3 e4 ⟨rs.map (trR S σ),by rw [e2,List.map_map];rfl,by rw [List.length_map];omega,fun _=>⟨e1,rfl⟩,fun _=>.same rfl hok.1⟩
end
theorem bytes_ne {a b:List UInt8}(h:a≠b):((⟨a.toArray⟩:ByteArray).toList == (⟨b.toArray⟩:ByteArray).toList)=false:=by
 rw [ByteArray.toList_eq,ByteArray.toList_eq,beq_eq_false_iff_ne]
 simpa using h
end Go.Proofs.YtfelmdkeaacfeaaGreatDoor.W
end
