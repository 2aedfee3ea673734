/- Texts joined: TwD TwX Hdl TwO. -/
import Derived.Test.YtfelmdkeaacfeaaGreatDoorTM25
import Derived.Test.YtfelmdkeaacfeaaGreatDoorTM29
import Derived.Test.YtfelmdkeaacfeaaGreatDoorTM1
import Derived.Test.YtfelmdkeaacfeaaGreatDoorTM20
import Derived.Test.YtfelmdkeaacfeaaGreatDoorTM24
import Derived.Test.YtfelmdkeaacfeaaGreatDoorTM16
set_option maxRecDepth 100000
set_option maxHeartbeats 40000000
set_option linter.unusedVariables false
set_option linter.unusedSimpArgs false
section
namespace Go.Proofs.YtfelmdkeaacfeaaGreatDoor.W
open Go.RowKit
theorem goneL_in (S:Tr):∀(l:List Nat) (x:Nat),x∈l→x < S.slots.length→(S.goneL l).slots[x]? = some none:=by
 intro l
 induction l generalizing S with
 | nil=>intro x hx;cases hx
 | cons y l ih =>
  intro x hx hl
  have e:S.goneL (y :: l)=(S.gone y).goneL l:=rfl
  rw [e]
  by_cases h:x∈l
  ·exact ih (S.gone y) x h (by simpa [Tr.gone] using hl)
  ·rcases List.mem_cons.1 hx with rfl | h2
   ·rw [goneL_slot _ _ _ h]
    unfold Tr.gone
    simp [List.getElem?_set,hl]
   ·exact absurd h2 h
structure Falls (S:Tr) (K:Nat→List Nat) (l:List Nat):Prop where
 live:∀x∈l,(S.at x).isSome=true
 fam:∀p k,k∈K p→(p∈l↔k∈l)
 nodup:l.Nodup
 zero:0∉l
theorem goneL_at {S:Tr}{K:Nat→List Nat}{l:List Nat}(F:Falls S K l)(x:Nat):(S.goneL l).at x=if x∈l then none else S.at x:=by
 by_cases h:x∈l
 ·rw [if_pos h]
  obtain⟨n,hn⟩:=Option.isSome_iff_exists.1 (F.live x h)
  unfold Tr.at
  rw [goneL_in S l x h (at_lt hn)];rfl
 ·rw [if_neg h]
  unfold Tr.at
  rw [goneL_slot S l x h]
def kGone (K:Nat→List Nat)(l:List Nat)(p:Nat):List Nat:=if p∈l then [] else K p
theorem goneL_hO (S:Tr)(l:List Nat)(o:Option Nat):hO (S.goneL l) o=hO S o:=by
 obtain⟨e1,e2,_⟩:=goneL_b S l
 cases o with
 | none=>rfl
 | some i=>show(S.goneL l).hd i=S.hd i;unfold Tr.hd;rw [e1,e2]
theorem kGone_mem {K:Nat→List Nat}{l:List Nat}{p k:Nat}(h:k∈kGone K l p):p∉l∧k∈K p:=by
 unfold kGone at h
 by_cases e:p∈l
 ·rw [if_pos e] at h;cases h
 ·rw [if_neg e] at h;exact⟨e,h⟩
theorem Lk.goneL {S:Tr}{K:Nat→List Nat}{d:Nat→Nat}{l:List Nat}(h:Lk S K d)(F:Falls S K l):Lk (S.goneL l) (kGone K l) d:=by
 obtain⟨e1,e2,e3,e4,e5⟩:=goneL_b S l
 have hat:=goneL_at F
 have hhd:∀x,(S.goneL l).hd x=S.hd x:=fun x=>by unfold Tr.hd;rw [e1,e2]
 have back:∀{x n},(S.goneL l).at x=Option.some n→x∉l∧S.at x=Option.some n:=fun {x n} hx=>by
  rw [hat] at hx
  by_cases e:x∈l
  ·rw [if_pos e] at hx;cases hx
  ·rw [if_neg e] at hx;exact⟨e,hx⟩
 have free:∀{x},x∉l→(∀p,x∉kGone K l p)→∀p,x∉K p:=fun {x} hx hp p hk=>by
  refine hp p ?_
  unfold kGone
  rw [if_neg (fun e=>hx ((F.fam p x hk).1 e))]
  exact hk
 refine⟨fun p k hk=>?_,fun i n hi=>?_,fun p j k n hk hn=>?_,fun i n hi hp=>?_,fun p=>?_,fun p k hk=>h.dep p k (kGone_mem hk).2,fun i hi hp=>?_,h.low,by rw [e4];exact h.few⟩
 ·obtain⟨hp,hk⟩:=kGone_mem hk
  have hkl:k∉l:=fun e=>hp ((F.fam p k hk).2 e)
  rw [hat,hat,if_neg hp,if_neg hkl]
  exact h.kin p k hk
 ·obtain⟨hl,hi⟩:=back hi
  unfold kGone
  rw [if_neg hl,goneL_hO,goneL_hO]
  exact h.node i n hi
 ·have hkm:=kGone_mem (List.mem_of_getElem? hk)
  obtain⟨hl,hn⟩:=back hn
  unfold kGone at hk ⊢
  rw [if_neg hkm.1] at hk ⊢
  rw [goneL_hO,goneL_hO,hhd]
  exact h.kid p j k n hk hn
 ·obtain⟨hl,hi⟩:=back hi
  exact h.top i n hi (free hl hp)
 ·unfold kGone
  split
  ·exact List.nodup_nil
  ·exact h.nodup p
 ·obtain⟨n,hn⟩:=Option.isSome_iff_exists.1 hi
  obtain⟨hl,hn⟩:=back hn
  exact h.one i (by rw [hn];rfl) (free hl hp)
theorem TrOk.goneL {c:Nat}{S:Tr}{K:Nat→List Nat}{d:Nat→Nat}{l:List Nat}(T:TrOk c S K d)(F:Falls S K l):TrOk c (S.goneL l) (kGone K l) d:=by
 obtain⟨e1,e2,e3,e4,e5⟩:=goneL_b S l
 have hat:=goneL_at F
 have back:∀{x n},(S.goneL l).at x=some n→x∉l∧S.at x=some n:=fun {x n} hx=>by
  rw [hat] at hx
  by_cases e:x∈l
  ·rw [if_pos e] at hx;cases hx
  ·rw [if_neg e] at hx;exact⟨e,hx⟩
 refine⟨T.lk.goneL F,fun x n hx=>T.nd x n (back hx).2,fun p np hp=>?_,fun k hk=>?_,?_,?_,?_,fun x n hx h0=>T.other x n (back hx).2 h0,fun p hp=>T.nodoc p (kGone_mem hp).2⟩
 ·exact(T.fam p np (back hp).2).sub rfl (fun k hk=>(kGone_mem hk).2) (fun k n' hn=>⟨n',(back hn).2,rfl⟩)
 ·rw [e5] at hk
  rcases List.mem_append.1 hk with hk | hk
  ·have h1:=T.fr k hk
   have hkl:k∉l:=fun e=>by
    obtain⟨n,hn⟩:=Option.isSome_iff_exists.1 (F.live k e)
    rw [at_slot hn] at h1;cases h1
   rw [goneL_slot S l k hkl];exact h1
  ·obtain⟨n,hn⟩:=Option.isSome_iff_exists.1 (F.live k hk)
   exact goneL_in S l k hk (at_lt hn)
 ·rw [e5,List.nodup_append]
  refine⟨T.frnd,F.nodup,fun a ha b hb e=>?_⟩
  subst e
  have h1:=T.fr a ha
  obtain⟨n,hn⟩:=Option.isSome_iff_exists.1 (F.live a hb)
  rw [at_slot hn] at h1;cases h1
 ·rw [e3,T.root];unfold Tr.hd;rw [e1,e2]
 ·obtain⟨n,h1,h2⟩:=T.doc
  exact⟨n,by rw [hat,if_neg F.zero];exact h1,h2⟩
theorem lv_goneM (M:List MN)(l:List Nat)(j:Nat):lv (goneM M l) j=if j∈l then none else lv M j:=by
 unfold lv
 rw [goneM_at]
 cases e:M[j]? with
 | none=>simp
 | some m =>
  by_cases h:j∈l
  ·have:l.contains j=true:=by simpa using h
   simp [h]
  ·have:l.contains j=false:=by simpa using h
   simp [h]
theorem Tw.goneL {ex:Prop}{E:Nat→Prop}{c:Nat}{S:Tr}{K:Nat→List Nat}{d:Nat→Nat}{M:List MN}{σ : Nat→Nat}(W:Tw ex E c S K M σ){l':List Nat}(hlive:∀y∈l',∃m,lv M y=some m)(F:Falls S K (l'.map σ)):Tw ex E c (S.goneL (l'.map σ)) (kGone K (l'.map σ)) (goneM M l') σ:=by
 have hat:=goneL_at F
 have back:∀{j m},lv (goneM M l') j=some m→j∉l'∧lv M j=some m:=fun {j m} h=>by
  rw [lv_goneM] at h
  by_cases e:j∈l'
  ·rw [if_pos e] at h;cases h
  ·rw [if_neg e] at h;exact⟨e,h⟩
 have fwd:∀{j m},j∉l'→lv M j=some m→lv (goneM M l') j=some m:=fun {j m} h1 h2=>by rw [lv_goneM,if_neg h1];exact h2
 have off:∀{j m},lv M j=some m→(σ j∈l'.map σ↔j∈l'):=fun {j m} h=>by
  constructor
  ·intro hm
   obtain⟨y,hy,e⟩:=List.mem_map.1 hm
   obtain⟨my,h2⟩:=hlive y hy
   rw [← W.inj y j my m h2 h e];exact hy
  ·intro hm;exact List.mem_map.2 ⟨j,hm,rfl⟩
 refine⟨fun i m hi=>?_,fun i m hi=>?_,fun i j mi mj hi hj e=>W.inj i j mi mj (back hi).2 (back hj).2 e,⟨W.zero.1,?_⟩,fun i m p hi hp=>?_,fun p mp k hp hk=>?_,fun i m hi hp q hq=>W.top i m (back hi).2 hp q (kGone_mem hq).2,fun x hx=>?_,fun i m hi=>W.off i m (back hi).2,fun i m hi=>W.ma i m (back hi).2,by unfold goneM;rw [List.length_mapIdx];exact W.few⟩
 ·obtain⟨h1,h2⟩:=back hi
  rw [hat,if_neg (fun e=>h1 ((off h2).1 e))]
  exact W.node i m h2
 ·obtain⟨h1,h2⟩:=back hi
  unfold kGone
  rw [if_neg (fun e=>h1 ((off h2).1 e))]
  exact W.kids i m h2
 ·obtain⟨m0,h0⟩:=W.zero.2
  exact⟨m0,fwd (fun e=>F.zero (by rw [← W.zero.1];exact List.mem_map.2 ⟨0,e,rfl⟩)) h0⟩
 ·obtain⟨h1,h2⟩:=back hi
  obtain⟨mp,h3,h4⟩:=W.par i m p h2 hp
  refine⟨mp,fwd (fun e=>h1 ?_) h3,h4⟩
  have hk:σ i∈K (σ p):=by rw [W.kids p mp h3];exact List.mem_map.2 ⟨i,h4,rfl⟩
  exact(off h2).1 ((F.fam _ _ hk).1 ((off h3).2 e))
 ·obtain⟨h1,h2⟩:=back hp
  obtain⟨mk,h3,h4⟩:=W.kid p mp k h2 hk
  refine⟨mk,fwd (fun e=>h1 ?_) h3,h4⟩
  have hk':σ k∈K (σ p):=by rw [W.kids p mp h2];exact List.mem_map.2 ⟨k,hk,rfl⟩
  exact(off h2).1 ((F.fam _ _ hk').2 ((off h3).2 e))
 ·rw [hat] at hx
  by_cases e:x∈l'.map σ
  ·rw [if_pos e] at hx;cases hx
  ·rw [if_neg e] at hx
   rcases W.cover x hx with h | ⟨i,m,h1,h2⟩
   ·exact .inl h
   ·refine .inr ⟨i,m,fwd (fun h3=>e ?_) h1,h2⟩
    rw [← h2];exact List.mem_map.2 ⟨i,h3,rfl⟩
theorem falls_wlk {c:Nat}{S:Tr}{K:Nat→List Nat}{d:Nat→Nat}(T:TrOk c S K d){i:Nat}{n:Nd}(hi:S.at i=some n)(ht:∀q,i∉K q)(h0:i≠0):Falls S K (wlk K (128 - d i) i):=by
 have hsi:(S.at i).isSome=true:=by rw [hi];rfl
 have mem:∀y,(S.at y).isSome=true→(y∈wlk K (128 - d i) i↔subB S d i y=true):=fun y hy=>⟨fun h=>(wlk_sub T.lk _ i y hsi h).1,fun h=>sub_wlk T.lk (d y) i y rfl hy hsi h⟩
 refine⟨fun x hx=>(wlk_sub T.lk _ i x hsi hx).2,fun p k hk=>?_,wlk_nodup T.lk _ i hsi,fun hz=>?_⟩
 ·have hpk:=T.lk.kin p k hk
  rw [mem p hpk.1,mem k hpk.2,sub_kid T.lk hk]
  have:(i == k)=false:=by simp;exact fun e=>ht p (e ▸ hk)
  rw [this,Bool.false_or]
 ·have h2:=wlk_sub T.lk _ i 0 hsi hz
  rw [sub_top T.lk h2.2 T.nodoc] at h2
  exact h0 (by simpa using h2.1)
theorem tw_drop {ex:Prop}{E:Nat→Prop}{c:Nat}{S:Tr}{K:Nat→List Nat}{d:Nat→Nat}{M M':List MN}{σ : Nat→Nat}(W:Tw ex E c S K M σ)(T:TrOk c S K d){x:Nat}{mx:MN}{n:Nd}(hx:lv M x=some mx)(hn:S.at (σ x)=some n){en:Int}(hm:MDro M (fun i=>d (σ i)) x mx M' en) :
  (en=7∧M'=M∧(n.parent≠0∨n.kind=1)) ∨
  (en=0∧n.parent=0∧n.kind≠1∧TrOk c (S.goneL (wlk K (128 - d (σ x)) (σ x))) (kGone K (wlk K (128 - d (σ x)) (σ x))) d∧Tw ex E c (S.goneL (wlk K (128 - d (σ x)) (σ x))) (kGone K (wlk K (128 - d (σ x)) (σ x))) M' σ):=by
 have hp:=W.parent T.lk hx hn
 cases hm with
 | no h =>
  refine .inl ⟨rfl,rfl,?_⟩
  rcases h with rfl | h
  ·rw [W.zero.1] at hn
   obtain⟨n0,h1,h2⟩:=T.doc
   rw [hn] at h1;cases h1
   exact .inr h2
  ·left
   cases e:mx.par with
   | none=>exact absurd e h
   | some p =>
    rw [e] at hp
    obtain⟨mp,h1,_⟩:=W.par x mx p hx e
    obtain⟨np,h2,_⟩:=W.node p mp h1
    have:=(Go.Proofs.YtfelmdkeaacfeaaGreatDoor.W.hd_ok T.lk h2).2
    rw [hp]
    show S.hd (σ p)≠0
    omega
 | yes h0 h =>
  have hsx:σ x≠0:=fun e=>by
   obtain⟨m0,hm0⟩:=W.zero.2
   exact h0 (W.inj x 0 mx m0 hx hm0 (by rw [e,W.zero.1]))
  have ht:=W.top x mx hx h
  have F:=falls_wlk T hn ht hsx
  rw [h] at hp
  have hwl:=W.wlk (128 - d (σ x)) x mx hx
  refine .inr ⟨rfl,hp,T.other _ n hn hsx,T.goneL F,?_⟩
  rw [hwl] at F ⊢
  exact Tw.goneL (d:=d) W (fun y hy=>W.wlk_live _ x mx hx y hy) F
theorem tw_rem {ex:Prop}{E:Nat→Prop}{c:Nat}{S:Tr}{K:Nat→List Nat}{d:Nat→Nat}{M M':List MN}{σ : Nat→Nat}(W:Tw ex E c S K M σ)(T:TrOk c S K d){x:Nat}{mx:MN}{n:Nd}(hx:lv M x=some mx)(hn:S.at (σ x)=some n){rs:List Rc}{en:Int}(hm:MRem M x mx M' rs en) :
  (en=10∧M'=M∧rs=[]∧n.kind=1)∨(en=0∧M'=M∧rs=[]∧n.kind≠1∧∀q,σ x∉K q) ∨
  (en=0∧n.kind≠1∧∃(q i:Nat),(K q)[i]? = some (σ x)∧[recC 2 (S.hd q) (S.hd (σ x)) n.prev n.next (i:Int) [] [] false 0 0]=rs.map (fun r=>encR (trR S σ r)) ∧
   ∀S',Cutd S S' (K q) q i (σ x)→TrOk c S' (cutK K q i) (dCut S d (σ x))∧Tw ex E c S' (cutK K q i) M' σ):=by
 have hnk:x≠0→n.kind≠1:=fun h0=>T.other _ n hn (fun e=>by
  obtain⟨m0,hm0⟩:=W.zero.2
  exact h0 (W.inj x 0 mx m0 hx hm0 (by rw [e,W.zero.1])))
 cases hm with
 | doc h =>
  subst h
  rw [W.zero.1] at hn
  obtain⟨n0,h1,h2⟩:=T.doc
  rw [hn] at h1;cases h1
  exact .inl ⟨rfl,rfl,rfl,h2⟩
 | top h0 h=>exact .inr (.inl ⟨rfl,rfl,rfl,hnk h0,W.top x mx hx h⟩)
 | cut q i mq h0 h1 h2 h3 =>
  have hk:=W.kids q mq h2
  have hj:(K (σ q))[i]? = some (σ x):=by rw [hk,List.getElem?_map,h3];rfl
  obtain⟨_,hp,hnx⟩:=T.lk.kid (σ q) i (σ x) n hj hn
  refine .inr (.inr ⟨rfl,hnk h0,σ q,i,hj,?_,fun S' hc=>⟨T.cut hj hc,W.cut T.lk h2 hx h1 h3 hc⟩⟩)
  have e1:n.prev=hO S ((pv mq.kids i).map σ):=by
   rw [hp,← pv_map,← hk];rfl
  have e2:n.next=hO S ((mq.kids[i+1]?).map σ):=by
   rw [hnx,hk,List.getElem?_map]
  rw [e1,e2]
  simp only [List.map_cons,List.map_nil,trR,rcD,encR,hM_pI,hM_nat]
def hnd (Hs:List Int)(i:Int):Int:=if i < 0 then 0 else Hs.getD i.toNat 0
theorem thandle_any {w:World}{g:Nat}{a b hv:Value}{Hs:List Int}(h:Blk w g [a,b,hv] 33)(ho:Own w 3 1 hv Hs.length (hC Hs))(hl:Hs.length≤100000)(i:Int)(h1:-100000≤i)(h2:i≤100000) :
  Calls Tryz.prog 42 #[.pointer (some ⟨g,0,none⟩),.int .i64 i] w fun e w'=>e=.returned (.int .i64 (hnd Hs i))∧w'=w:=by
 have c2:=h.cell 2
 have cf:=h.free
 have hlt:=h.lt
 simp only [zzD,zzE] at c2
 obtain⟨va,vc,rfl⟩:=own_shape ho
 unfold hnd
 by_cases hi:i < 0
 ·have hd:decide (i < 0)=true:=by simp;exact hi
  rw [if_pos hi]
  clear h ho
  go_enter Tryz.func42,Tryz.ntmps42
  go_wp2_with fail
  go_ret
  exact⟨rfl,rfl⟩
 ·obtain⟨j,rfl⟩:∃j:Nat,i=(j:Int):=⟨i.toNat,by omega⟩
  have hd:decide ((j:Int) < 0)=false:=by simp
  rw [if_neg hi,Int.toNat_natCast]
  by_cases hj:j < Hs.length
  ·have hd2:decide ((Hs.length:Int)≤(j:Int))=false:=by simp;omega
   obtain⟨gv,cp,hv,hc⟩:=own_int (show w.ownsRow 0 3 1 (.slice va Hs.length vc) Hs.length (hC Hs) from own_low ho (Nat.zero_le _)) (x:=Hs.getD j 0) (j:=j) (by rw [List.getD_eq_getElem?_getD,List.getElem?_eq_getElem hj];rfl)
   cases hv
   have hcg:=World.block_lt_of_cell? w ⟨gv,j,none⟩ hc
   have hji:(j:Int) < (Hs.length:Int):=by omega
   generalize Hs.getD j 0=x at *
   clear h ho
   go_enter Tryz.func42,Tryz.ntmps42
   go_wp2_with fail
   go_ret
   exact⟨rfl,rfl⟩
  ·have hd2:decide ((Hs.length:Int)≤(j:Int))=true:=by simp;omega
   rw [List.getD_eq_getElem?_getD,List.getElem?_eq_none (by omega)]
   clear h ho
   go_enter Tryz.func42,Tryz.ntmps42
   go_wp2_with fail
   go_ret
   exact⟨rfl,rfl⟩
def hsOf (S:Tr)(σ : Nat→Nat)(M:List MN):List Int:=(List.range M.length).map fun i=>if(lv M i).isSome then S.hd (σ i) else -1
theorem hsOf_len (S:Tr)(σ : Nat→Nat)(M:List MN):(hsOf S σ M).length=M.length:=by unfold hsOf;simp
theorem hsOf_at {S:Tr}{σ : Nat→Nat}{M:List MN}{i:Nat}(h:i < M.length):(hsOf S σ M)[i]? = some (if(lv M i).isSome then S.hd (σ i) else -1):=by
 unfold hsOf;rw [List.getElem?_map,List.getElem?_range h];rfl
theorem hsOf_live {S:Tr}{σ : Nat→Nat}{M:List MN}{i:Nat}{m:MN}(h:lv M i=some m):(hsOf S σ M)[i]? = some (S.hd (σ i)):=by
 rw [hsOf_at (lv_live ⟨m,h⟩),h];rfl
theorem hsOf_dead {S:Tr}{σ : Nat→Nat}{M:List MN}{i:Nat}(hi:i < M.length)(h:lv M i=none):(hsOf S σ M)[i]? = some (-1):=by
 rw [hsOf_at hi,h];rfl
def twL (g R Q:Nat)(hv:Value)(Hs:List Int)(S:Tr)(sv fv nv:Value)(X:List MX):List Ob :=
 [bk g [.pointer (some ⟨R,0,none⟩),.pointer (some ⟨Q,0,none⟩),hv] 33,sl 3 1 hv Hs.length (hC Hs),trO R S sv fv,mdO Q nv X]
structure TwS (ex:Prop) (E:Nat→Prop) (c x:Nat) (S:Tr) (K:Nat→List Nat) (d:Nat→Nat) (M:List MN) (σ : Nat→Nat):Prop where
 ok:TrOk c S K d
 tw:Tw ex E c S K M σ
 cl:∀p k,k∈K p→(E p↔E k)
 lim:S.slots.length≤M.length+x
theorem TrOk.freel {c:Nat}{S:Tr}{K:Nat→List Nat}{d:Nat→Nat}(T:TrOk c S K d):S.free.length≤S.slots.length :=
 nodup_len S.slots.length S.free T.frnd (fun i hi=>(List.getElem?_eq_some_iff.1 (T.fr i hi)).1)
section
variable {B : Nat} {w0 w w' : World} {l : List Ob} {g R Q : Nat} {hv sv fv nv : Value} {Hs : List Int} {S : Tr} {X : List MX}
theorem tw_bk (h:All B w0 (twL g R Q hv Hs S sv fv nv X ++ l) w):Blk w g [.pointer (some ⟨R,0,none⟩),.pointer (some ⟨Q,0,none⟩),hv] 33:=h.P (bk g _ _) (by simp [twL])
theorem tw_hs (h:All B w0 (twL g R Q hv Hs S sv fv nv X ++ l) w):Own w 3 1 hv Hs.length (hC Hs):=h.P (sl 3 1 hv Hs.length (hC Hs)) (by simp [twL])
theorem tw_tr (h:All B w0 (twL g R Q hv Hs S sv fv nv X ++ l) w):TAt 0 R S sv fv w:=h.P (trO R S sv fv) (by simp [twL])
theorem tw_md (h:All B w0 (twL g R Q hv Hs S sv fv nv X ++ l) w):MdAt Q nv X w:=h.P (mdO Q nv X) (by simp [twL])
theorem All.stepAt {o o' x:Ob}(l1:List Ob){l2:List Ob}(h:All B w0 (l1 ++ o :: l2) w)(hp:o'.P w')(hx:x.P w')(hc:Chg o.F w w')(hk:∀k,o'.F k→o.F k∨w.heap.size≤k)(hn:∀k,x.F k→w.heap.size≤k)(hap:∀k,x.F k→¬o'.F k):All B w0 (x :: (l1 ++ o' :: l2)) w':=by
 have h1:=h.step l1 (l2:=l2) hp hc hk
 refine⟨?_,?_,?_,h1.below,h1.le⟩
 ·intro y hy
  rcases List.mem_cons.1 hy with rfl | hy
  ·exact hx
  ·exact h1.P y hy
 ·rw [List.pairwise_cons]
  refine⟨fun y hy k h2 h3=>?_,h1.apart⟩
  have key:∀z∈l1 ++ o :: l2,z.F k→False:=fun z hz h4=>by
   have:=hn k h2
   have:=z.here w (h.P z hz) k h4
   omega
  rcases List.mem_append.1 hy with hy | hy
  ·exact key y (List.mem_append_left _ hy) h3
  ·rcases List.mem_cons.1 hy with rfl | hy
   ·exact hap k h2 h3
   ·exact key y (List.mem_append_right _ (List.mem_cons_of_mem _ hy)) h3
 ·intro y hy k h2
  rcases List.mem_cons.1 hy with rfl | hy
  ·exact Nat.le_trans h.le (hn k h2)
  ·exact h1.base y hy k h2
structure TrOut (R:Nat) (S:Tr) (sv fv:Value) (w:World) (S':Tr) (sv' fv':Value) (w':World):Prop where
 at_:TAt 0 R S' sv' fv' w'
 chg:Chg (trF R S sv fv) w w'
 new:∀k,trF R S' sv' fv' k→trF R S sv fv k∨w.heap.size≤k
theorem TrOut.refl (h:TAt 0 R S sv fv w)(hb:Below w.heap.size w w'):TrOut R S sv fv w S sv fv w':=⟨h.below hb,Chg.of_below hb,fun k hk=>.inl hk⟩
theorem TrOut.all {S':Tr}{sv' fv':Value}(k:TrOut R S sv fv w S' sv' fv' w')(h:All B w0 (twL g R Q hv Hs S sv fv nv X ++ l) w):All B w0 (twL g R Q hv Hs S' sv' fv' nv X ++ l) w' :=
 h.step [bk g [.pointer (some ⟨R,0,none⟩),.pointer (some ⟨Q,0,none⟩),hv] 33,sl 3 1 hv Hs.length (hC Hs)] (o:=trO R S sv fv) (o':=trO R S' sv' fv') (l2:=mdO Q nv X :: l) k.at_ k.chg k.new
theorem TrOut.rec_ {S':Tr}{sv' fv' v:Value}{rs:List Rc}(k:TrOut R S sv fv w S' sv' fv' w')(hr:w'.ownsRow w.heap.size 41 11 v rs.length (rows encR rs))(h:All B w0 (twL g R Q hv Hs S sv fv nv X ++ l) w):All B w0 (rl v rs :: (twL g R Q hv Hs S' sv' fv' nv X ++ l)) w' :=
 h.stepAt [bk g [.pointer (some ⟨R,0,none⟩),.pointer (some ⟨Q,0,none⟩),hv] 33,sl 3 1 hv Hs.length (hC Hs)] (o:=trO R S sv fv) (o':=trO R S' sv' fv') (x:=rl v rs) (l2:=mdO Q nv X :: l) k.at_ (own_low hr (Nat.zero_le _)) k.chg k.new (fun q hq=>(hr.lt q hq).1) (fun q hq hq'=>by
  obtain⟨cur,hcur⟩:=own_ty hr hq
  obtain⟨cur',t,hc',ht⟩:=trF_ty k.at_ hq'
  rw [hcur] at hc'
  cases hc'
  exact ht rfl)
theorem RcAt.row {v:Value}{rs:List Rc}{b:Nat}(h:RcAt w b v (rs.map encR)):w.ownsRow b 41 11 v rs.length (rows encR rs):=by
 have:=h
 unfold RcAt at this
 rwa [rows_flat,List.length_map] at this
theorem MdOut.tw {o:Ob}{nv':Value}{X':List MX}(k:MdOut Q nv X w nv' X' w')(h:All B w0 (o :: (twL g R Q hv Hs S sv fv nv X ++ l)) w):All B w0 (o :: (twL g R Q hv Hs S sv fv nv' X' ++ l)) w' :=
 h.step [o,bk g [.pointer (some ⟨R,0,none⟩),.pointer (some ⟨Q,0,none⟩),hv] 33,sl 3 1 hv Hs.length (hC Hs),trO R S sv fv] (o:=mdO Q nv X) (o':=mdO Q nv' X') (l2:=l) k.at_ k.chg k.new
theorem MdOut.tw0 {nv':Value}{X':List MX}(k:MdOut Q nv X w nv' X' w')(h:All B w0 (twL g R Q hv Hs S sv fv nv X ++ l) w):All B w0 (twL g R Q hv Hs S sv fv nv' X' ++ l) w' :=
 h.step [bk g [.pointer (some ⟨R,0,none⟩),.pointer (some ⟨Q,0,none⟩),hv] 33,sl 3 1 hv Hs.length (hC Hs),trO R S sv fv] (o:=mdO Q nv X) (o':=mdO Q nv' X') (l2:=l) k.at_ k.chg k.new
end
theorem ix_small (S:Tr){h:Int}(hh:h≤0):S.ix h=none:=by
 unfold Tr.ix
 have:idx S.b S.s h=-1:=idx_no (Or.inl (by have:=bnd_lo S.b;omega))
 rw [this,if_neg (by omega)]
theorem hs_ok {ex E c x}{S:Tr}{K d M σ}(T:TwS ex E c x S K d M σ){i:Nat}(hi:i < M.length):∃h,(hsOf S σ M)[i]? = some h∧HOk h∧((∃m n,lv M i=some m∧S.at (σ i)=some n∧h=S.hd (σ i))∨(lv M i=none∧h=-1∧S.ix h=none)):=by
 cases e:lv M i with
 | some m =>
  obtain⟨n,hn,_⟩:=T.tw.node i m e
  exact⟨_,hsOf_live e,(hd_ok T.ok.lk hn).1,.inl ⟨m,n,rfl,hn,rfl⟩⟩
 | none =>
  refine⟨-1,hsOf_dead hi e,⟨by omega,by omega⟩,.inr ⟨rfl,rfl,?_⟩⟩
  exact ix_small S (by omega)
end Go.Proofs.YtfelmdkeaacfeaaGreatDoor.W
end
