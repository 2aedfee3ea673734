/- Texts joined: SamP Do9 DoY EqA Stt Close OpT. -/
import Derived.Test.YtfelmdkeaacfeaaGreatDoorTM38
import Derived.Test.YtfelmdkeaacfeaaGreatDoorTM39
import Derived.Test.YtfelmdkeaacfeaaGreatDoorTM42
import Derived.Test.YtfelmdkeaacfeaaGreatDoorRows
import Derived.WalkKit
import Derived.ProofKit
import Derived.OpenShut
import Derived.Lib.SmallJoins
import Derived.Deep.Slices
set_option maxRecDepth 100000
set_option maxHeartbeats 40000000
set_option linter.unusedVariables false
set_option linter.unusedSimpArgs false
section
namespace Go.Proofs.YtfelmdkeaacfeaaGreatDoor.W
open Go.RowKit
def all2 (f:Nat→Nat→Bool):List Nat→List Nat→Bool
 | [],[]=>true
 | x :: xs,y :: ys=>f x y && all2 f xs ys
 | _,_=>false
theorem all2_len (f:Nat→Nat→Bool):∀(l m:List Nat),l.length≠m.length→all2 f l m=false
 | [],[],h=>absurd rfl h
 | [],y :: ys,_=>rfl
 | x :: xs,[],_=>rfl
 | x :: xs,y :: ys,h=>by
  show(f x y && all2 f xs ys)=false
  rw [all2_len f xs ys (by simpa using h),Bool.and_false]
theorem all2_false (f:Nat→Nat→Bool):∀(l m:List Nat) (j:Nat) (x y:Nat),l[j]? = some x→m[j]? = some y→f x y=false→all2 f l m=false
 | [],m,j,x,y,h,_,_=>by simp at h
 | a :: l,[],j,x,y,_,h,_=>by simp at h
 | a :: l,b :: m,0,x,y,h1,h2,h=>by
  simp at h1 h2;subst h1 h2
  show(f a b && all2 f l m)=false
  rw [h,Bool.false_and]
 | a :: l,b :: m,j+1,x,y,h1,h2,h=>by
  show(f a b && all2 f l m)=false
  rw [all2_false f l m j x y (by simpa using h1) (by simpa using h2) h,Bool.and_false]
theorem all2_true (f:Nat→Nat→Bool):∀(l m:List Nat),l.length=m.length→(∀(j x y:Nat),l[j]? = some x→m[j]? = some y→f x y=true)→all2 f l m=true
 | [],[],_,_=>rfl
 | [],y :: ys,h,_=>by simp at h
 | x :: xs,[],h,_=>by simp at h
 | x :: xs,y :: ys,h,k=>by
  show(f x y && all2 f xs ys)=true
  rw [k 0 x y rfl rfl,Bool.true_and]
  exact all2_true f xs ys (by simpa using h) (fun j a b h1 h2=>k (j+1) a b (by simpa using h1) (by simpa using h2))
def sameN (n m:Nd):Bool:=n.kind == m.kind && (n.name == m.name && (n.data == m.data && n.attrs == m.attrs))
def sameB (S S2:Tr)(K K2:Nat→List Nat):Nat→Nat→Nat→Bool
 | 0,a,b=>(match S.at a,S2.at b with | some n,some m=>sameN n m | _,_=>false) && all2 (fun _ _=>true) (K a) (K2 b)
 | f+1,a,b=>(match S.at a,S2.at b with | some n,some m=>sameN n m | _,_=>false) && all2 (sameB S S2 K K2 f) (K a) (K2 b)
theorem attr_get {B:Nat}{w:World}{v:Value}{l:List Atr}(h:AttrAt B w v l){i:Nat}{p:Atr}(hp:l[i]? = some p):∃g cap,v=.slice (some ⟨g,0,none⟩) l.length cap∧g < w.heap.size∧w.cell? ⟨g,i*2,none⟩=some (.string ⟨p.1.toArray⟩)∧w.cell? ⟨g,i*2+1,none⟩=some (.string ⟨p.2.toArray⟩):=by
 obtain⟨a,c,e,h'⟩:=h
 rcases h' with rfl | ⟨g,cur,rfl,_,hh,hc⟩
 ·simp at hp
 ·obtain⟨h1,h2⟩:=hc i p hp
  refine⟨g,c,e,lt_of_block hh,?_,?_⟩
  ·rw [Lib.cell_of_heap hh,Nat.mul_comm];exact h1
  ·rw [Lib.cell_of_heap hh,Nat.mul_comm];exact h2
def EqR (w:World)(l:List Atr)(m:List Atr)(iv:Value)(wr:World):Prop:=∃k n:Nat,k≤l.length∧l.take k=m.take k∧iv=.int .i64 (k:Int)∧wr=w.drewN n
theorem equal_attr {B B2:Nat}{w:World}{v v2:Value}{l m:List Atr}(h:AttrAt B w v l)(h2:AttrAt B2 w v2 m)(hl:l.length≤1000)(hm:m.length≤1000) :
  Calls Tryz.prog 77 #[v,v2] w fun e w'=>e=.returned (.bool (l == m))∧∃n,w'=w.drewN n:=by
 have H1:=Lib.hid h
 have H2:=Lib.hid h2
 obtain⟨a1,c1,rfl,_⟩:=h
 obtain⟨a2,c2,rfl,_⟩:=h2
 by_cases hlen:l.length=m.length
 ·rw [← hlen] at H2 ⊢
  have hd:decide ((l.length:Int)=(l.length:Int))=true:=by simp
  go_enter Tryz.func77,Tryz.ntmps77
  go_wp2_with fail
  go_loopw [13] (fun iv wr=>EqR w l m iv wr) (fun iv _=>l.length - (intOf iv).toNat)
  case atStart=>exact⟨0,0,Nat.zero_le _,by simp,rfl,rfl⟩
  case round =>
   obtain⟨k,q,hk,htk,rfl,rfl⟩:=hrel
   by_cases hkl:k < l.length
   ·obtain⟨x,hx⟩:∃x,l[k]? = some x:=⟨_,List.getElem?_eq_getElem hkl⟩
    obtain⟨y,hy⟩:∃y,m[k]? = some y:=⟨_,List.getElem?_eq_getElem (by omega)⟩
    obtain⟨g1,k1,he,qlt,q0,q1⟩:=attr_get H1.out hx
    simp only [Value.slice.injEq,true_and] at he
    obtain⟨rfl,rfl⟩:=he
    obtain⟨g2,k2,he,plt,p0,p1⟩:=attr_get H2.out hy
    rw [← hlen] at he
    simp only [Value.slice.injEq,true_and] at he
    obtain⟨rfl,rfl⟩:=he
    obtain⟨x1,x2⟩:=x
    obtain⟨y1,y2⟩:=y
    simp only at q0 q1 p0 p1
    by_cases hxy:(x1,x2)=(y1,y2)
    ·have HT:=Lib.hid (show l.take (k+1)=m.take (k+1) by rw [List.take_add_one,List.take_add_one,htk,hx,hy,hxy])
     cases hxy
     clear hx hy htk
     generalize (⟨x1.toArray⟩:ByteArray)=s1 at *
     generalize (⟨x2.toArray⟩:ByteArray)=s2 at *
     go_wp2_with fail
     go_quiet (fail)
     go_wp2_with fail
     go_roundw
     case rel=>exact⟨k+1,_,by omega,HT.out,by go_num,rfl⟩
     case measure=>simp [intOf];omega
    ·have HNe:=Lib.hid (show(l == m)=false from by
      rw [beq_eq_false_iff_ne]
      rintro rfl
      rw [hx] at hy;cases hy;exact hxy rfl)
     by_cases e1:x1=y1
     ·subst e1
      have hs:=bytes_ne (show x2≠y2 from fun e=>hxy (by rw [e]))
      clear hx hy htk hxy
      generalize (⟨x1.toArray⟩:ByteArray)=s1 at *
      generalize (⟨x2.toArray⟩:ByteArray)=s2 at *
      generalize (⟨y2.toArray⟩:ByteArray)=t2 at *
      go_wp2_with fail
      go_quiet (fail)
      go_wp2_with fail
      go_ret
      exact⟨by rw [HNe.out];rfl,_,World.drewN_drewN _ _ _⟩
     ·have hs:=bytes_ne e1
      clear hx hy htk hxy
      generalize (⟨x1.toArray⟩:ByteArray)=s1 at *
      generalize (⟨x2.toArray⟩:ByteArray)=s2 at *
      generalize (⟨y2.toArray⟩:ByteArray)=t2 at *
      generalize (⟨y1.toArray⟩:ByteArray)=t1 at *
      go_wp2_with fail
      go_quiet (fail)
      go_wp2_with fail
      go_ret
      exact⟨by rw [HNe.out];rfl,_,World.drewN_drewN _ _ _⟩
   ·obtain rfl:k=l.length:=by omega
    have HE:=Lib.hid (show(l == m)=true from by
     rw [beq_iff_eq]
     rw [List.take_length,hlen,List.take_length] at htk
     exact htk)
    clear htk
    go_wp2_with fail
    go_ret
    exact⟨by rw [HE.out];rfl,_,rfl⟩
 ·have hne:(l == m)=false:=by
   rw [beq_eq_false_iff_ne]
   rintro rfl
   exact hlen rfl
  have HE:=Lib.hid hne
  clear hne
  have hd:decide ((l.length:Int)=(m.length:Int))=false:=by simp;omega
  have hd2:((l.length:Int) == (m.length:Int))=false:=by simp;omega
  clear H1 H2
  go_enter Tryz.func77,Tryz.ntmps77
  go_wp2_with fail
  go_ret
  exact⟨by rw [HE.out];rfl,0,rfl⟩
end Go.Proofs.YtfelmdkeaacfeaaGreatDoor.W
end
section
namespace Go.Proofs.YtfelmdkeaacfeaaGreatDoor.W
open Go.RowKit
theorem do_dro {ex:Prop}{E:Nat→Prop}{c x:Nat}{B:Nat}{w0 w:World}{l:List Ob}{g R Q:Nat}{hv sv fv nv:Value}{S:Tr}{K:Nat→List Nat}{d:Nat→Nat}{X:List MX}{σ : Nat→Nat}
  (hLd:Laid w)(h:All B w0 (twL g R Q hv (hsOf S σ (ms X)) S sv fv nv X ++ l) w)(T:TwS ex E c x S K d (ms X) σ)(hX:X.length≤600)(hx:x≤2000)(hce:ex→c≤60)(hc6:c≤200)(o:OpV)(ho:o.Ok)(hk:o.k % 10=9) :
  Calls Tryz.prog 13 #[.pointer (some ⟨g,0,none⟩),.agg (opC o).toArray] w (DoR ex E c x B w0 l g R Q S K d (ms X) σ o):=by
 have hD:=doI_of h T hX hx ho
 obtain⟨Hs,hHs⟩:∃Hs,Hs=hsOf S σ (ms X):=⟨_,rfl⟩
 rw [← hHs] at h
 have hHl:Hs.length=X.length:=by rw [hHs,hsOf_len,ms_len]
 have hHp:0 < X.length:=hD.pos
 obtain⟨hva,hvc,hvv⟩:=own_shape (tw_hs h)
 rw [hHl] at hvv
 subst hvv
 have HAl:=Lib.hid h
 have HT:=Lib.hid T
 have HO:=Lib.hid ho
 have HHs:=Lib.hid hHs
 have HHl:=Lib.hid hHl
 have HLd:=Lib.hid hLd
 have hbk:=tw_bk h
 have g1:=hbk.cell 1
 have g2:=hbk.cell 2
 simp only [zzD,zzE] at g1 g2
 have hgl:=hbk.lt
 have hgz:=hbk.free
 have hb1:=(Below.refl w.heap.size w).alloc (Nat.le_refl _) (.cells (opC o).toArray 39)
 have k1:=Blk.new w (opC o) 39
 have hra:(o.a:Int) % (X.length:Int)=((o.iA X.length:Nat):Int):=rfl
 have hrb:(o.b:Int) % (X.length:Int)=((o.iB X.length:Nat):Int):=rfl
 have hrc:=wrap_iC o (n:=X.length) (by omega)
 have hrk:(o.k:Int) % 10=9:=by omega
 have hal:o.iA X.length < X.length:=Nat.mod_lt _ hHp
 have hbl:o.iB X.length < X.length:=Nat.mod_lt _ hHp
 have hn0:¬(X.length:Int)=0:=by omega
 have hn1:¬(X.length:Int)+1=0:=by omega
 have hoa:=ho.a
 have hob:=ho.b
 have hoc:=ho.c
 have hok:=ho.k
 have HHas:=Lib.hid (fun wx (hb:Below w.heap.size w wx) i (hi:i≤1000000)=>hasT (h.still hb) i hi (by have:=hD.pos;omega))
 clear h T ho hHs hbk hLd
 simp only [opC] at k1 hb1 ⊢
 go_enter Tryz.func13,Tryz.ntmps13
 go_upto_region 2 with fail
 generalize w.alloc (.cells #[.int .u8 o.k,.int .u8 o.a,.int .u8 o.b,.int .u8 o.c,.string ⟨o.s.toArray⟩,.string ⟨o.t.toArray⟩,.int .i8 o.n,.int .i8 o.kk] 39)=w1 at *
 have hne:=stb_ne w1
 have x1:=fun(x:InS (StB w1))=>(k1.below x.h).cell 1
 have x2:=fun(x:InS (StB w1))=>(k1.below x.h).cell 2
 have x3:=fun(x:InS (StB w1))=>(k1.below x.h).cell 3
 simp only [zzD,zzE] at x1 x2 x3
 refine reg_f (fun _ _=>True) (fun _ _=>True) 20 (by kernel_rfl) (by kernel_rfl) (fun _ _ _ _ _=>trivial) trivial ?_
 simp only [zzF,zzG,zzH,zzI]
 repeat (first
  | (refine RV.m_held (by rfl) (by rfl) (fun K hK=>?_);go_big_quiet_step (fail);refine wpQuiet_nil ?_;refine hK.out _ ?_;clear hK K)
  | (refine RV.m_skip (by rfl) ?_;simp only [Act.put,zzA,zzB,zzC]))
 refine RV.m_nil ?_
 intro w2 hb2' _
 have HB2:=Lib.hid (bthen hb1 hb2')
 have HK2:=Lib.hid (k1.below hb2')
 clear x1 x2 x3 hne hb1 hb2' k1 g1 g2 hHl
 rw [hra,hrb,hrc]
 have HA2:=Lib.hid (HAl.out.still HB2.out)
 have c0:=HK2.out.cell 0
 have g1:=(tw_bk HA2.out).cell 1
 have g2:=(tw_bk HA2.out).cell 2
 simp only [zzD,zzE] at c0 g1 g2
 have hgl2:=(tw_bk HA2.out).lt
 have hgz2:=(tw_bk HA2.out).free
 have hxl2:=HK2.out.lt
 clear hgl hgz
 go_wp2_with fail
 refine(HHas.out w2 HB2.out _ (by omega)).mono ?_
 rintro e w3 ⟨rfl,hw⟩
 rw [hw]
 clear hw
 obtain⟨hd,hhd,hho,hcase⟩:=hs_ok HT.out (i:=o.iA X.length) (by rw [ms_len];exact hal)
 rw [← HHs.out] at hhd
 obtain⟨gh,rfl,hghl,hgh⟩:=tw_hcell HA2.out HHl.out _ _ hhd
 have hai:(o.iA X.length:Int) < (X.length:Int):=by omega
 rcases hcase with ⟨m,n,hm,hn,rfl⟩ | ⟨hm,rfl,hix⟩
 case inr =>
  rw [hm]
  go_upto_region 8 with fail
  have hne:=stb_ne w2
  have y0:=fun(x:InS (StB w2))=>(tw_bk (HA2.out.still x.h)).cell 0
  have y2:=fun(x:InS (StB w2))=>(tw_bk (HA2.out.still x.h)).cell 2
  have y3:=fun(x:InS (StB w2))=>cell_keep x.h hgh
  simp only [zzD,zzE] at y0 y2
  refine reg_f (fun _ _=>True) (fun _ v=>v=.int .i64 6) 13 (by kernel_rfl) (by kernel_rfl) (fun _ _ _ _ _=>trivial) trivial ?_
  simp only [zzF,zzG,zzH,zzI]
  repeat (first
   | (refine RV.m_held (by rfl) (by rfl) (fun K hK=>?_);go_big_quiet_step (fail);refine wpQuiet_nil ?_;refine hK.out _ ?_;clear hK K)
   | (refine RV.m_skip (by rfl) ?_;simp only [Act.put,zzA,zzB,zzC]))
  refine RV.m_call (by rfl) (by rfl) (fun w=>by go_simp;exact⟨rfl,rfl⟩) (⟨_,rfl⟩) (fun X wx hx=>?_) (fun v hv=>?_)
  ·refine(tdrop_none (tw_tr (HA2.out.still hx.1)) (-1) hho hix).mono ?_
   rintro e wy ⟨rfl,hb⟩
   exact⟨_,rfl,rfl,bthen hx.1 hb,trivial⟩
  obtain rfl:v=.int .i64 6:=hv
  simp only [Act.put,zzA,zzB,zzC]
  repeat (first
   | (refine RV.m_held (by rfl) (by rfl) (fun K hK=>?_);go_big_quiet_step (fail);refine wpQuiet_nil ?_;refine hK.out _ ?_;clear hK K)
   | (refine RV.m_skip (by rfl) ?_;simp only [Act.put,zzA,zzB,zzC]))
  refine RV.m_nil ?_
  intro w5 hb5 _
  have HA5:=Lib.hid (HA2.out.still hb5)
  clear y0 y2 y3 hne hb5
  have HA7:=Lib.hid HA5.out
  clear hgl2 hgz2 hghl hgh
  go_wp2_with fail
  go_loopw [40] (fun iv wr=>StrK B w0 l g R Q gh X.length hvc Hs S sv fv nv X iv wr) (fun iv _=>X.length - intN iv)
  case atStart=>exact⟨0,Nat.zero_le _,rfl,by rw [updH_zero];exact HA7.out⟩
  case round =>
   obtain⟨i,hi,rfl,hAi⟩:=hrel
   have HAi:=Lib.hid hAi
   clear hrk
   have q1:=(tw_bk hAi).cell 1
   have q2:=(tw_bk hAi).cell 2
   simp only [zzD,zzE] at q1 q2
   have qgl:=(tw_bk hAi).lt
   have qgz:=(tw_bk hAi).free
   by_cases hil:i < X.length
   ·have HHi:=Lib.hid (hasT hAi i (by omega) ⟨by omega,by omega⟩)
    have hii:(i:Int) < (X.length:Int):=by omega
    have hul:(updH (ms X) i Hs).length=X.length:=by rw [updH_len];exact HHl.out
    obtain⟨gh',e2,hghl',hci⟩:=tw_hcell hAi hul i ((updH (ms X) i Hs).getD i 0) (by rw [List.getD_eq_getElem?_getD,List.getElem?_eq_getElem (by rw [hul];exact hil)];rfl)
    cases e2
    have hown:=tw_hs hAi
    rw [hul] at hown
    have hfz:=hown.frozenAt i
    clear hown
    have HUl:=Lib.hid hul
    generalize (updH (ms X) i Hs).getD i 0=ov at *
    clear hAi hul
    cases hlv:lv (ms X) i with
    | some mi =>
     rw [hlv] at HHi
     have HU:=Lib.hid (updH_live hlv Hs)
     clear hlv
     go_wp2_with fail
     refine HHi.out.mono ?_
     rintro e w9 ⟨rfl,hw⟩
     rw [hw]
     clear hw
     go_wp2_with fail
     go_roundw
     case rel=>exact⟨i+1,by omega,by go_num,by rw [HU.out];exact HAi.out⟩
     case measure=>simp [intN];omega
    | none =>
     rw [hlv] at HHi
     have HU:=Lib.hid (updH_dead hlv Hs (by rw [HHl.out];exact hil))
     clear hlv
     go_wp2_with fail
     refine HHi.out.mono ?_
     rintro e w9 ⟨rfl,hw⟩
     rw [hw]
     clear hw
     go_wp2_with fail
     go_roundw
     case rel=>exact⟨i+1,by omega,by go_num,by rw [HU.out];exact tw_strike HAi.out HUl.out i (-1)⟩
     case measure=>simp [intN];omega
   ·obtain rfl:i=X.length:=by omega
    clear hAi q1 q2 qgl qgz
    go_wp2_with fail
    go_ret2
    exact do_dead HT.out HAi.out HHs.out hk (by rw [ms_len];exact hm)
 case inl =>
  rw [hm]
  go_upto_region 8 with fail
  haveI hne:Nonempty (InS (DoS g R Q gh (o.iA X.length) w.heap.size (.slice (some ⟨gh,0,none⟩) X.length hvc) (S.hd (σ (o.iA X.length))) o)):=⟨⟨w2,doS_0 HA2.out HK2.out hgh w2 (Below.refl _ _)⟩⟩
  have y0:=fun(x:InS (DoS g R Q gh (o.iA X.length) w.heap.size (.slice (some ⟨gh,0,none⟩) X.length hvc) (S.hd (σ (o.iA X.length))) o))=>x.h.bk.cell 0
  have y2:=fun(x:InS (DoS g R Q gh (o.iA X.length) w.heap.size (.slice (some ⟨gh,0,none⟩) X.length hvc) (S.hd (σ (o.iA X.length))) o))=>x.h.bk.cell 2
  have y3:=fun(x:InS (DoS g R Q gh (o.iA X.length) w.heap.size (.slice (some ⟨gh,0,none⟩) X.length hvc) (S.hd (σ (o.iA X.length))) o))=>x.h.hc
  simp only [opC,zzD,zzE] at y0 y2
  refine reg_g (DoS g R Q gh (o.iA X.length) w.heap.size (.slice (some ⟨gh,0,none⟩) X.length hvc) (S.hd (σ (o.iA X.length))) o) (TF w2 (DRes B w0 l g R Q (.slice (some ⟨gh,0,none⟩) X.length hvc) Hs nv X w.heap.size o S K d (σ (o.iA X.length)) n)) (fun _ v=>∃er,v=.int .i64 er) 13 (by kernel_rfl) (by kernel_rfl) (tf_S (doS_0 HA2.out HK2.out hgh) (dres_S HHl.out hhd)) (tf_below dres_below) (Below.refl _ _) ?_
  simp only [zzF,zzG,zzH,zzI]
  repeat (first
   | (refine RV.m_held (by rfl) (by rfl) (fun K hK=>?_);go_big_quiet_step (fail);refine wpQuiet_nil ?_;refine hK.out _ ?_;clear hK K)
   | (refine RV.m_skip (by rfl) ?_;simp only [Act.put,zzA,zzB,zzC]))
  refine RV.m_call (by rfl) (by rfl) (fun w=>by go_simp;exact⟨rfl,rfl⟩) (⟨_,0,rfl⟩) (fun X wx hx=>?_) (fun v hv=>?_)
  ·have hx2:Below w2.heap.size w2 wx:=hx
   have hA3:=HA2.out.still hx2
   have hk3:=HK2.out.below hx2
   have hT2:TAt 0 R S sv fv wx:=tw_tr hA3
   have hcl:=tdro_any hT2 HT.out.ok _ n hn hD.sl
   refine hcl.mono ?_
   rintro e wy ⟨S',sv',fv',er,hdt,rfl,hTo⟩
   exact⟨_,rfl,⟨er,rfl⟩,S',sv',fv',er,rfl,hdt,hTo.all hA3,box_keep hk3 hTo hT2⟩
  obtain⟨er,rfl⟩:=hv
  simp only [Act.put,zzA,zzB,zzC]
  repeat (first
   | (refine RV.m_held (by rfl) (by rfl) (fun K hK=>?_);go_big_quiet_step (fail);refine wpQuiet_nil ?_;refine hK.out _ ?_;clear hK K)
   | (refine RV.m_skip (by rfl) ?_;simp only [Act.put,zzA,zzB,zzC]))
  refine RV.m_nil ?_
  intro w5 hF
  obtain⟨S',sv',fv',er',he,hres,hA5,hK5⟩:=hF
  obtain rfl:er=er':=by simpa using he
  clear he
  have HA5:=Lib.hid hA5
  have HK5:=Lib.hid hK5
  have HRes:=Lib.hid hres
  clear y0 y2 y3 hne hA5 hK5 hres
  obtain⟨gm,capm,rfl⟩:=(tw_md HA5.out).W.shape hHp
  have g1':=(tw_bk HA5.out).cell 1
  simp only [zzD,zzE] at g1'
  have hgl5:=(tw_bk HA5.out).lt
  have hgz5:=(tw_bk HA5.out).free
  go_wp2_with fail
  refine(mdrop_any (tw_md HA5.out) (HT.out.tw.mw HT.out.ok.lk) (fun f i m h=>by have:=HT.out.tw.wlk_len HT.out.ok.lk f h;have:=hD.sl;omega) (fun f i m h=>HT.out.tw.wlk_live f i m h) hm).mono ?_
  rintro e w7 ⟨X',en,hmd,rfl,hM7⟩
  have HA7:=Lib.hid (hM7.tw0 HA5.out)
  have hBo:=both_dro HT.out.ok HT.out.tw HT.out.cl hm hn HRes.out hmd
  obtain⟨hee,hBo⟩:=hBo
  subst hee
  have hXl:X'.length=X.length:=by
   obtain⟨_,_,_,_,_,_,_,_,_,h,_⟩:=hBo
   rw [ms_len,ms_len] at h;exact h
  have HBo:=Lib.hid hBo
  have HMd:=Lib.hid hmd
  have HXl:=Lib.hid hXl
  clear hmd hM7 hBo g1' hgl5 hgz5 hgl2 hgz2 hghl hgh
  go_wp2_with fail
  go_loopw [40] (fun iv wr=>StrK B w0 l g R Q gh X.length hvc Hs S' sv' fv' (.slice (some ⟨gm,0,none⟩) X'.length capm) X' iv wr) (fun iv _=>X.length - intN iv)
  case atStart=>exact⟨0,Nat.zero_le _,rfl,by rw [updH_zero];exact HA7.out⟩
  case round =>
   obtain⟨i,hi,rfl,hAi⟩:=hrel
   have HAi:=Lib.hid hAi
   clear hrk
   have q1:=(tw_bk hAi).cell 1
   have q2:=(tw_bk hAi).cell 2
   simp only [zzD,zzE] at q1 q2
   have qgl:=(tw_bk hAi).lt
   have qgz:=(tw_bk hAi).free
   by_cases hil:i < X.length
   ·have HHi:=Lib.hid (hasT hAi i (by omega) ⟨by omega,by omega⟩)
    have hii:(i:Int) < (X.length:Int):=by omega
    have hul:(updH (ms X') i Hs).length=X.length:=by rw [updH_len];exact HHl.out
    obtain⟨gh',e2,hghl',hci⟩:=tw_hcell hAi hul i ((updH (ms X') i Hs).getD i 0) (by rw [List.getD_eq_getElem?_getD,List.getElem?_eq_getElem (by rw [hul];exact hil)];rfl)
    cases e2
    have hown:=tw_hs hAi
    rw [hul] at hown
    have hfz:=hown.frozenAt i
    clear hown
    have HUl:=Lib.hid hul
    generalize (updH (ms X') i Hs).getD i 0=ov at *
    clear hAi hul
    cases hlv:lv (ms X') i with
    | some mi =>
     rw [hlv] at HHi
     have HU:=Lib.hid (updH_live hlv Hs)
     clear hlv
     go_wp2_with fail
     refine HHi.out.mono ?_
     rintro e w9 ⟨rfl,hw⟩
     rw [hw]
     clear hw
     go_wp2_with fail
     go_roundw
     case rel=>exact⟨i+1,by omega,by go_num,by rw [HU.out];exact HAi.out⟩
     case measure=>simp [intN];omega
    | none =>
     rw [hlv] at HHi
     have HU:=Lib.hid (updH_dead hlv Hs (by rw [HHl.out];exact hil))
     clear hlv
     go_wp2_with fail
     refine HHi.out.mono ?_
     rintro e w9 ⟨rfl,hw⟩
     rw [hw]
     clear hw
     go_wp2_with fail
     go_roundw
     case rel=>exact⟨i+1,by omega,by go_num,by rw [HU.out];exact tw_strike HAi.out HUl.out i (-1)⟩
     case measure=>simp [intN];omega
   ·obtain rfl:i=X.length:=by omega
    clear hAi q1 q2 qgl qgz
    have HMq:=Lib.hid (match_q (ts:=[]) (rs:=[]) (S:=S') (σ:=σ) (M:=ms X') (v:=.slice none 0 0) (v2:=.slice none 0 0) (HAi.out.nil _ _) (str_all HHs.out HBo.out) (by rw [ms_len];have:=HXl.out;omega) (by simp) (.same rfl (by simp)) (World.ownsRow_nil _ _ _ _))
    go_wp2_with fail
    refine HMq.out.mono ?_
    rintro e w8 ⟨bq,rfl,hbq,hb8⟩
    have HA8:=Lib.hid (HAi.out.still hb8)
    obtain rfl:bq=true:=hbq rfl
    clear hb8 hbq
    go_wp2_with fail
    go_ret2
    exact do_gone HT.out HA8.out HHs.out hk hm HXl.out HBo.out HMd.out
end Go.Proofs.YtfelmdkeaacfeaaGreatDoor.W
end
section
namespace Go.Proofs.YtfelmdkeaacfeaaGreatDoor.W
open Go.RowKit
theorem do_any {ex:Prop}{E:Nat→Prop}{c x:Nat}{B:Nat}{w0 w:World}{l:List Ob}{g R Q:Nat}{hv sv fv nv:Value}{S:Tr}{K:Nat→List Nat}{d:Nat→Nat}{X:List MX}{σ : Nat→Nat}
  (hLd:Laid w)(h:All B w0 (twL g R Q hv (hsOf S σ (ms X)) S sv fv nv X ++ l) w)(T:TwS ex E c x S K d (ms X) σ)(hX:X.length≤600)(hx:x≤2000)(hce:ex→c≤60)(hc6:c≤200)(o:OpV)(ho:o.Ok)(hE:∀y,E y→(S.at y).isSome=true) :
  Calls Tryz.prog 13 #[.pointer (some ⟨g,0,none⟩),.agg (opC o).toArray] w (DoR ex E c x B w0 l g R Q S K d (ms X) σ o):=by
 have h10:o.k % 10 < 10:=Nat.mod_lt _ (by omega)
 rcases(show o.k % 10=0∨o.k % 10=1∨o.k % 10=2∨o.k % 10=3∨o.k % 10=4∨o.k % 10=5∨o.k % 10=6∨o.k % 10=7∨o.k % 10=8∨o.k % 10=9 by omega) with hk | hk | hk | hk | hk | hk | hk | hk | hk | hk
 ·exact do_mk (by omega) hLd h T hX hx hce hc6 o ho hk hE
 ·exact do_mk (by omega) hLd h T hX hx hce hc6 o ho hk hE
 ·exact do_mk (by omega) hLd h T hX hx hce hc6 o ho hk hE
 ·exact do_ins hLd h T hX hx hce hc6 o ho hk
 ·exact do_rem hLd h T hX hx hce hc6 o ho hk
 ·exact do_set hLd h T hX hx hce hc6 o ho hk
 ·exact do_drp hLd h T hX hx hce hc6 o ho hk
 ·exact do_rep hLd h T hX hx hce hc6 o ho hk
 ·exact do_cpy hLd h T hX hx hce hc6 o ho hk hE
 ·exact do_dro hLd h T hX hx hce hc6 o ho hk
end Go.Proofs.YtfelmdkeaacfeaaGreatDoor.W
end
section
namespace Go.Proofs.YtfelmdkeaacfeaaGreatDoor.W
open Go.RowKit
def EqL (w:World)(n:Nat)(iv:Value)(wr:World):Prop:=∃i:Nat,i≤n∧iv=.int .i64 (i:Int)∧Below w.heap.size w wr
end Go.Proofs.YtfelmdkeaacfeaaGreatDoor.W
end
section
namespace Go.Proofs.YtfelmdkeaacfeaaGreatDoor.W
open Go.RowKit
theorem tree_newA {B:Nat}{w0 w:World}{l:List Ob}(h:All B w0 l w)(b s:Int) :
  Calls Tryz.prog 38 #[.agg #[.int .i64 b,.int .i64 s]] w fun e w'=>∃R sv,e=.returned (.pointer (some ⟨R,0,none⟩))∧All B w0 (trO R (newT b s) sv (.slice none 0 0) :: l) w':=by
 refine(tree_new b s w).mono ?_
 rintro e w' ⟨R,sv,rfl,hT,hb⟩
 refine⟨R,sv,rfl,h.new ⟨hT.blk,own_low hT.slots (Nat.zero_le _),own_low hT.free (Nat.zero_le _),fun i n hi=>?_,Nat.zero_le _,hT.few⟩ hb (fun k hk=>?_)⟩
 ·obtain⟨a,c,e,h'⟩:=hT.attrs i n hi
  exact⟨a,c,e,h'.imp id fun⟨g,cur,e1,_,r⟩=>⟨g,cur,e1,Nat.zero_le _,r⟩⟩
 ·rcases hk with rfl | hk | hk | ⟨i,n,hi,hne,hk⟩
  ·exact hT.base
  ·exact(hT.slots.lt k hk).1
  ·cases hk
  ·obtain⟨a,c,e,h'⟩:=hT.attrs i n (at_slot hi)
   rcases h' with h' | ⟨g,cur,rfl,hg,_⟩
   ·exact absurd h' hne
   ·rw [e] at hk;cases hk;exact hg
theorem tws_start (b s:Int):TwS True (fun _=>False) 0 0 (newT b s) (fun _=>[]) (fun _=>1) [newMN 1 [] [] []] (fun _=>0):=by
 have hlk:Lk (newT b s) (fun _=>[]) (fun _=>1):=start_lk b s
 have hat:∀i n,(newT b s).at i=some n→i=0∧n=newN 1 []:=fun i n hi=>by
  unfold Tr.at newT at hi
  cases i with
  | zero=>simp at hi;exact⟨rfl,hi.symm⟩
  | succ i=>simp at hi
 have h0:(newT b s).at 0=some (newN 1 []):=rfl
 have hlv:∀i m,lv [newMN 1 [] [] []] i=some m→i=0∧m=newMN 1 [] [] []:=fun i m hi=>by
  obtain⟨h1,_⟩:=lv_at hi
  cases i with
  | zero=>simp at h1;exact⟨rfl,h1.symm⟩
  | succ i=>simp at h1
 have hz:lv [newMN 1 [] [] []] 0=some (newMN 1 [] [] []):=rfl
 refine⟨⟨hlk,fun x n hx=>?_,fun p np _=>.inl rfl,fun i hi=>(by cases hi),List.nodup_nil,rfl,⟨_,h0,rfl⟩,fun x n hx hx0=>absurd (hat x n hx).1 hx0,fun p h=>(by cases h)⟩,
  ⟨fun i m hi=>?_,fun i m hi=>?_,fun i j mi mj hi hj _=>?_,⟨rfl,_,hz⟩,fun i m p hi hp=>?_,fun p mp k hp hk=>?_,fun i m hi hp q h=>(by cases h),fun x hx=>?_,fun i m hi h=>h,fun i m hi=>?_,by decide⟩,fun p k h=>(by cases h),by show 1≤1+0;omega⟩
 ·rw [(hat x n hx).2]
  exact⟨.inl rfl,fun e=>(by cases e),fun e=>(by rcases e with e | e <;> cases e),fun _=>⟨rfl,rfl,rfl⟩,fun a ha=>(by cases ha),List.nodup_nil,by simp [newN],by simp [newN],by simp [newN]⟩
 ·obtain⟨rfl,rfl⟩:=hlv i m hi
  exact⟨_,h0,rfl,rfl,rfl,fun _=>rfl⟩
 ·obtain⟨rfl,rfl⟩:=hlv i m hi
  rfl
 ·rw [(hlv i mi hi).1,(hlv j mj hj).1]
 ·obtain⟨rfl,rfl⟩:=hlv i m hi
  cases hp
 ·obtain⟨rfl,rfl⟩:=hlv p mp hp
  cases hk
 ·obtain⟨n,hn⟩:=Option.isSome_iff_exists.1 hx
  exact .inr ⟨0,_,hz,(hat x n hn).1.symm⟩
 ·obtain⟨rfl,rfl⟩:=hlv i m hi
  exact Nat.zero_le _
theorem All.conv {B:Nat}{w0 w:World}{o o':Ob}(l1:List Ob){l2:List Ob}(h:All B w0 (l1 ++ o :: l2) w)(hp:o'.P w)(hf:∀k,o'.F k→o.F k):All B w0 (l1 ++ o' :: l2) w :=
 h.step l1 hp (Chg.refl _ _) (fun k hk=>.inl (hf k hk))
def StC (B:Nat)(w0:World)(l:List Ob)(R:Nat)(S:Tr)(sv fv:Value):List Value→List Ob→World→Prop
 | [],Y,w'=>All B w0 (Y ++ trO R S sv fv :: l) w'
 | [v],Y,w'=>∃Q nv X,v=.pointer (some ⟨Q,0,none⟩)∧ms X=[newMN 1 [] [] []]∧All B w0 (Y ++ mdO Q nv X :: trO R S sv fv :: l) w'
 | _,_,_=>False
theorem StC.tr {B:Nat}{w0 w:World}{l:List Ob}{R:Nat}{S:Tr}{sv fv:Value}{k:List Value}{Y:List Ob}(h:StC B w0 l R S sv fv k Y w):TAt 0 R S sv fv w:=by
 match k,h with
 | [],h=>exact h.P (trO R S sv fv) (by simp)
 | [v],⟨Q,nv,X,_,_,h⟩=>exact h.P (trO R S sv fv) (by simp)
theorem StC.alloc {B:Nat}{w0 w:World}{l:List Ob}{R:Nat}{S:Tr}{sv fv:Value}(k:List Value)(Y:List Ob)(cs:List Value)(ty:TypeId)(h:StC B w0 l R S sv fv k Y w):StC B w0 l R S sv fv k (bk w.heap.size cs ty :: Y) (w.alloc (.cells cs.toArray ty)):=by
 match k,h with
 | [],h=>exact h.newBk cs ty
 | [v],⟨Q,nv,X,e1,e2,h⟩=>exact⟨Q,nv,X,e1,e2,h.newBk cs ty⟩
theorem StC.perm {B:Nat}{w0 w:World}{l:List Ob}{R:Nat}{S:Tr}{sv fv:Value}(k:List Value)(Y Z:List Ob)(hp:Y.Perm Z)(h:StC B w0 l R S sv fv k Y w):StC B w0 l R S sv fv k Z w:=by
 match k,h with
 | [],h=>exact All.perm (show All B w0 (Y ++ trO R S sv fv :: l) w from h) (List.Perm.append_right _ hp)
 | [v],⟨Q,nv,X,e1,e2,h⟩=>exact⟨Q,nv,X,e1,e2,h.perm (List.Perm.append_right _ hp)⟩
theorem start_any {B:Nat}{w0 w:World}{l:List Ob}(h:All B w0 l w)(b s:Int) :
  Calls Tryz.prog 12 #[.agg #[.int .i64 b,.int .i64 s]] w fun e w'=>∃g R Q hv sv nv X,e=.returned (.pointer (some ⟨g,0,none⟩))∧ms X=[newMN 1 [] [] []] ∧
   All B w0 (twL g R Q hv (hsOf (newT b s) (fun _=>0) (ms X)) (newT b s) sv (.slice none 0 0) nv X ++ l) w':=by
 have HA1:=Lib.hid (h.alloc (.cells #[.int .i64 b,.int .i64 s] 28))
 have k1:=Blk.new w [.int .i64 b,.int .i64 s] 28
 have c0:=k1.cell 0
 have c1:=k1.cell 1
 simp only [zzD,zzE] at c0 c1
 have hlt:=k1.lt
 clear h
 go_enter Tryz.func12,Tryz.ntmps12
 go_wp2_with fail
 refine(tree_newA HA1.out b s).mono ?_
 rintro e w2 ⟨R,sv,rfl,hA2⟩
 have HA2:=Lib.hid hA2
 clear c0 c1 hlt k1 hA2
 go_upto_region 2 with fail
 generalize hS:newT b s=S at *
 have hroot:S.root=S.hd 0:=by rw [← hS];rfl
 haveI hne:Nonempty (InS (fun w'=>TAt 0 R S sv (.slice none 0 0) w')):=⟨⟨w2,HA2.out.head⟩⟩
 have y5:=fun(x:InS (fun w'=>TAt 0 R S sv (.slice none 0 0) w'))=>x.h.blk.cell 5
 simp only [zzD,zzE] at y5
 refine RV.reg_m ⟨fun w'=>TAt 0 R S sv (.slice none 0 0) w',StC B w0 l R S sv (.slice none 0 0),fun _ v=>∃Q,v=.pointer (some ⟨Q,0,none⟩),fun _ r=>.slice (some ⟨r,0,none⟩) 1 1,fun _=>[.int .i64 S.root],fun _=>3⟩ 8 (by kernel_rfl) (by kernel_rfl) (fun k Y w h=>h.tr) (fun k Y w cs ty h=>StC.alloc k Y cs ty h) (fun k Y Z w hp h=>StC.perm k Y Z hp h) (HA2.out.drew) ?_
 simp only [zzF,zzG,zzH,zzI]
 repeat (first
  | (refine RV.m_held (by rfl) (by rfl) (fun K hK=>?_);go_big_quiet_step (fail);refine wpQuiet_nil ?_;refine hK.out _ ?_;clear hK K)
  | (refine RV.m_skip (by rfl) ?_;simp only [Act.put,zzA,zzB,zzC]))
 refine RV.m_call (by rfl) (by rfl) (fun w=>by go_simp;exact⟨rfl,rfl⟩) (⟨_,0,rfl⟩) (fun X wx hx=>?_) (fun v hv=>?_)
 ·refine(mnew_any wx).mono ?_
  rintro e wy ⟨Q,gq,capq,Xm,rfl,hms,hq⟩
  have hx':All B w0 (X ++ trO R S sv (.slice none 0 0) :: l) wx:=hx
  exact⟨_,rfl,⟨Q,rfl⟩,Q,_,Xm,rfl,hms,(hx'.after hq).perm (by simpa using List.perm_middle.symm)⟩
 obtain⟨Q,rfl⟩:=hv
 simp only [Act.put,zzA,zzB,zzC]
 repeat (first
  | (refine RV.m_held (by rfl) (by rfl) (fun K hK=>?_);go_big_quiet_step (fail);refine wpQuiet_nil ?_;refine hK.out _ ?_;clear hK K)
  | (refine RV.m_skip (by rfl) ?_;simp only [Act.put,zzA,zzB,zzC]))
 refine RV.m_made (fun r=>.slice (some ⟨r,0,none⟩) 1 1) [.int .i64 S.root] 3 rfl rfl rfl (by rfl) (by rfl) (fun w=>by go_simp) ?_
 intro r
 simp only [Act.put,zzA,zzB,zzC]
 repeat (first
  | (refine RV.m_held (by rfl) (by rfl) (fun K hK=>?_);go_big_quiet_step (fail);refine wpQuiet_nil ?_;refine hK.out _ ?_;clear hK K)
  | (refine RV.m_skip (by rfl) ?_;simp only [Act.put,zzA,zzB,zzC]))
 refine RV.m_nil ?_
 rintro w5 ⟨Q',nv,X,e1,hms,hA5⟩
 cases e1
 have HA5:=Lib.hid hA5
 clear y5 hne hA5
 go_wp2_with fail
 go_ret
 refine⟨w5.heap.size,R,Q,.slice (some ⟨r,0,none⟩) 1 1,sv,nv,X,rfl,hms,?_⟩
 have h1:=All.conv [] (o':=sl 3 1 (.slice (some ⟨r,0,none⟩) 1 1) 1 (hC [S.hd 0])) HA5.out (by
  have:=HA5.out.P (bk r [.int .i64 S.root] 3) (by simp)
  rw [← hroot]
  exact own_at (n:=1) (size:=1) this rfl (by omega)) (fun k hk=>by cases hk;rfl)
 have h2:=h1.newBk [.pointer (some ⟨R,0,none⟩),.pointer (some ⟨Q,0,none⟩),.slice (some ⟨r,0,none⟩) 1 1] 33
 rw [hms,hS]
 have h3:hsOf S (fun _=>0) [newMN 1 [] [] []]=[S.hd 0]:=rfl
 rw [h3]
 exact h2.perm ((List.Perm.cons _ (List.Perm.cons _ (List.Perm.swap _ _ _))))
end Go.Proofs.YtfelmdkeaacfeaaGreatDoor.W
end
section
namespace Go.Proofs.YtfelmdkeaacfeaaGreatDoor.W
open Go.ChangeShapes Go.WideShapes Go.ChangeAt Go.RowKit Go.Joins
theorem own:ownKnob Tryz.prog.godebug=none:=by kernel_rfl
theorem laidOut:laidOutB Tryz.prog=true:=by kernel_rfl
theorem trodAll_stays {H:Type}{enc:TypeId×Value→H}{P:Program}(hl:laidOutB P=true){W W':World}(hb:Below W.heap.size W W'){sp:Nat→Bool} :
  ∀{ts:List TypeId} {vs:List Value} {ds:List (DataW H)} {ps:List MemPlace},(∀t∈ts,P.readableRec t=true∧t < P.types.size) →
   DataW.TrodAll enc P W 0 (fun _=>true) true ts vs ds ps→(∀p∈ps,p.block < W.heap.size)→(∀p∈ps,sp p.block=true)→DataW.TrodAll enc P W' 0 sp true ts vs ds ps
 | [],[],[],_,_,h,_,_=>h
 | [],_ :: _,_,_,_,h,_,_=>h.elim
 | [],[],_ :: _,_,_,h,_,_=>h.elim
 | _ :: _,[],_,_,_,h,_,_=>h.elim
 | _ :: _,_ :: _,[],_,_,h,_,_=>h.elim
 | t :: ts,v :: vs,d :: ds,ps,hT,⟨p,q,h1,h2,e⟩,hlt,hs=>by
  subst e
  obtain⟨hr,hrow⟩:=hT t (by simp)
  exact⟨p,q,WideElems.Trod_stays hl hr hrow h1 (fun x hx=>hb.same (hlt x (by simp [hx]))) (fun x hx=>hs x (by simp [hx])),
   trodAll_stays hl hb (fun t ht=>hT t (by simp [ht])) h2 (fun x hx=>hlt x (by simp [hx])) (fun x hx=>hs x (by simp [hx])),rfl⟩
section
variable {H : Type} {enc : TypeId × Value → H} {P : Program}
theorem post_of_below {f:Func}{s:ChangeSpec}{apart fresh handsOn again:Bool}{W W':World}{args:Array Value}{v:Value}{ds gs:List (DataW H)}{before pa pv:List MemPlace}
  (hW:DataW.Whole enc P f.params.toList s.vars apart W args.toList ds gs before)
  (hres:∀(b:Nat) (sp:Nat→Bool) (hd:Bool),DataW.TrodAll enc P W' b sp hd f.resultTypes.toList (v.resultList f.resultTypes.size) (s.fn H (ds ++ gs)).results [])
  (hargs:∀sp:Nat→Bool,(∀p∈before,sp p.block=true)→DataW.TrodAll enc P W' 0 sp true f.params.toList args.toList (s.fn H (ds ++ gs)).args pa)
  (hvars:∀sp:Nat→Bool,(∀p∈before,sp p.block=true)→DataW.TrodVars enc P W' sp s.vars (s.fn H (ds ++ gs)).vars pv)
  (hps:before=pa ++ pv)(hb:Below W.heap.size W W')
  (hok:∀(j:Nat) (t:TypeId) (r:Value),f.resultTypes[j]? = some t→(v.resultList f.resultTypes.size)[j]? = some r→Value.okWide P W' .any 0 t r) :
  s.post enc P f apart fresh handsOn again W args v W':=by
 have hlt:∀p∈before,p.block < W.heap.size:=fun p hp=>hW.lt p hp
 have hold:∀p∈before,(fun b=>decide (b < W.heap.size)) p.block=true:=fun p hp=>by simpa using hlt p hp
 refine⟨ds,gs,before,[],pa,pv,hW,hres _ _ _,hargs _ hold,hvars _ hold,World.keptBut_mono (fun p hp=>⟨hp,?_⟩) (hb.frame (·∈before)),fun _=>?_⟩
 ·rw [hps,List.mem_append] at hp
  exact Or.inr hp
 ·obtain⟨_,_,_,_,_,hz,hn⟩:=hW
  refine⟨hok,_,_,([] ++ pa) ++ pv,⟨[] ++ pa,pv,trodAll_append (hargs _ (fun _ _=>rfl)) (hres _ _ _),hvars _ (fun _ _=>rfl),rfl,?_,?_⟩,?_⟩
  ·intro b off hp
   have hin:MemPlace.cell b off∈before:=by rw [hps];simpa using hp
   rw [hb.frozen (hlt _ hin)]
   exact hz b off hin
  ·intro ha
   have:=hn ha
   rw [hps] at this
   simpa using this
  ·intro p hp _
   rw [hps]
   simpa using hp
theorem law_post {f:Func}{s:ChangeSpec}{fresh handsOn again:Bool}{W W':World}{args:Array Value}{ds gs:List (DataW H)}{before:List MemPlace}{tb:TypeId}
  (hl:laidOutB P=true)(hT:∀t∈f.params.toList,P.readableRec t=true∧t < P.types.size)
  (hr:f.resultTypes=#[tb])(htb:P.underlying tb=some .bool)(hv:s.vars=[])
  (hfn:(s.fn H (ds ++ gs)).results=[.lit (.bool true)])(hfa:(s.fn H (ds ++ gs)).args=ds)(hfv:(s.fn H (ds ++ gs)).vars=[])
  (hW:DataW.Whole enc P f.params.toList s.vars false W args.toList ds gs before)(hb:Below W.heap.size W W') :
  s.post enc P f false fresh handsOn again W args (.bool true) W':=by
 have hlt:∀p∈before,p.block < W.heap.size:=fun p hp=>hW.lt p hp
 have hW':=hW
 obtain⟨p,q,hA,hV,rfl,_,_⟩:=hW
 rw [hv] at hV
 obtain⟨rfl,rfl⟩:=trodVars_none hV
 simp only [List.append_nil] at *
 refine post_of_below (pa:=p) (pv:=[]) hW' (fun _ _ _=>?_) (fun sp hs=>?_) (fun sp _=>?_) (by simp) hb (ok_one hr rfl (okWide_bool_mk htb _))
 ·rw [hr]
  simp only [List.append_nil]
  rw [hfn]
  exact trodAll_cons_mk (shut_bool htb _) trodAll_mk0
 ·simp only [List.append_nil]
  rw [hfa]
  exact trodAll_stays hl hb hT hA hlt hs
 ·simp only [List.append_nil]
  rw [hv,hfv]
  rfl
end
end Go.Proofs.YtfelmdkeaacfeaaGreatDoor.W
end
section
namespace Go.Proofs.YtfelmdkeaacfeaaGreatDoor.W
open Go.ChangeShapes Go.WideShapes Go.ChangeAt Go.RowKit Go.Joins Go.Deep
structure OpV.In (o:OpV):Prop where
 k:o.k≤255
 a:o.a≤255
 b:o.b≤255
 c:o.c≤255
 n:-128≤o.n∧o.n≤127
 kk:-128≤o.kk∧o.kk≤127
def zeroOp:OpV:=⟨0,0,0,0,[],[],0,0⟩
theorem zeroOp_in:zeroOp.In:=⟨by decide,by decide,by decide,by decide,by decide,by decide⟩
def InP (w:World)(A:Option Addr)(n:Nat)(f:Nat→OpV):Prop:=0 < n→∃b off,A=some ⟨b,off,none⟩∧b < w.heap.size∧∀j,j < n →
 w.cell? ⟨b,off+j*8,none⟩=some (.int .u8 ((f j).k:Int))∧w.cell? ⟨b,off+j*8+1,none⟩=some (.int .u8 ((f j).a:Int))∧w.cell? ⟨b,off+j*8+2,none⟩=some (.int .u8 ((f j).b:Int))∧w.cell? ⟨b,off+j*8+3,none⟩=some (.int .u8 ((f j).c:Int)) ∧
 w.cell? ⟨b,off+j*8+4,none⟩=some (.string ⟨(f j).s.toArray⟩)∧w.cell? ⟨b,off+j*8+5,none⟩=some (.string ⟨(f j).t.toArray⟩)∧w.cell? ⟨b,off+j*8+6,none⟩=some (.int .i8 (f j).n)∧w.cell? ⟨b,off+j*8+7,none⟩=some (.int .i8 (f j).kk)
theorem byte_in {x:Int}(h:(Lit.int .u8 x).wf=true):0≤x∧x≤255:=by
 have:=bounds_u8 h
 omega
theorem byte_nat {x:Int}(h:(Lit.int .u8 x).wf=true):x.toNat≤255∧((x.toNat:Nat):Int)=x:=by
 have:=byte_in h
 omega
theorem str_list (s:ByteArray):(⟨s.data.toList.toArray⟩:ByteArray)=s:=by
 cases s;simp
section
variable {H : Type} {enc : TypeId × Value → H} {P : Program} {w : World}
theorem open_tops {r:Reach}{b0:Nat}{t e:TypeId}{f0 f1 f2 f3 f4 f5 f6 f7:Field}{v:Value}{d:DataW H}{ps:List MemPlace}(ht:P.underlying t=some (.slice e))(he:P.underlying e=some (.struct #[f0,f1,f2,f3,f4,f5,f6,f7]))
  (hone:oneCellFields P #[f0,f1,f2,f3,f4,f5,f6,f7]=true)(hC:P.cellsOf e=8)(e0:P.underlying f0.type=some (.int .u8))(e1:P.underlying f1.type=some (.int .u8))(e2:P.underlying f2.type=some (.int .u8))(e3:P.underlying f3.type=some (.int .u8))(e4:P.underlying f4.type=some .string)(e5:P.underlying f5.type=some .string)(e6:P.underlying f6.type=some (.int .i8))(e7:P.underlying f7.type=some (.int .i8))
  (hval:Value.okWide P w r b0 t v)(h:DataW.Trod enc P w 0 (fun _=>true) true t v d ps) :
  ∃A n c,∃f:Nat→OpV,v=.slice A n c∧n≤9223372036854775807∧InP w A n f∧∀j,(f j).In:=by
 obtain⟨A,n,c,rfl⟩:=okWide_slice ht hval
 obtain⟨fuel,hf⟩:=h
 rcases open_slice ht hf with ⟨hcs,_⟩ | ⟨a,len,cap,m,k,D,Pl,hcs,_,hl,hmx,hm,_,hx⟩
 ·simp [Value.cells] at hcs
  obtain⟨rfl,rfl,rfl⟩:=hcs
  exact⟨none,0,0,fun _=>zeroOp,rfl,Nat.zero_le _,fun h=>absurd h (by omega),fun _=>zeroOp_in⟩
 ·simp [Value.cells] at hcs
  obtain⟨rfl,rfl,rfl⟩:=hcs
  simp only [if_true] at hm
  subst hm
  rw [hC] at hx
  have each:∀i,∃q:OpV,q.In ∧
    (i < n→w.cell? (a.add (i*8))=some (.int .u8 (q.k:Int))∧w.cell? (a.add (i*8+1))=some (.int .u8 (q.a:Int))∧w.cell? (a.add (i*8+2))=some (.int .u8 (q.b:Int))∧w.cell? (a.add (i*8+3))=some (.int .u8 (q.c:Int))∧w.cell? (a.add (i*8+4))=some (.string ⟨q.s.toArray⟩)∧w.cell? (a.add (i*8+5))=some (.string ⟨q.t.toArray⟩)∧w.cell? (a.add (i*8+6))=some (.int .i8 q.n)∧w.cell? (a.add (i*8+7))=some (.int .i8 q.kk)):=by
   intro i
   by_cases hi:i < n
   ·obtain⟨cs,h1,h2⟩:=hx i (by omega)
    obtain⟨_,hlen,hcell⟩:=World.cells?_some h1
    obtain⟨o0,k0⟩:=hone_of hone 0 f0 rfl
    obtain⟨o1,k1⟩:=hone_of hone 1 f1 rfl
    obtain⟨o2,k2⟩:=hone_of hone 2 f2 rfl
    obtain⟨o3,k3⟩:=hone_of hone 3 f3 rfl
    obtain⟨o4,k4⟩:=hone_of hone 4 f4 rfl
    obtain⟨o5,k5⟩:=hone_of hone 5 f5 rfl
    obtain⟨o6,k6⟩:=hone_of hone 6 f6 rfl
    obtain⟨o7,k7⟩:=hone_of hone 7 f7 rfl
    obtain⟨xs,k',_,_,_,hxl,hg⟩:=DataW.trod_struct he h2
    match xs,hxl,cs,hlen with
    | [y0,y1,y2,y3,y4,y5,y6,y7],_,[v0,v1,v2,v3,v4,v5,v6,v7],_ =>
     have g0:=hg 0 f0 rfl
     have g1:=hg 1 f1 rfl
     have g2:=hg 2 f2 rfl
     have g3:=hg 3 f3 rfl
     have g4:=hg 4 f4 rfl
     have g5:=hg 5 f5 rfl
     have g6:=hg 6 f6 rfl
     have g7:=hg 7 f7 rfl
     simp [o0,o1,o2,o3,o4,o5,o6,o7,k0,k1,k2,k3,k4,k5,k6,k7] at g0 g1 g2 g3 g4 g5 g6 g7
     obtain⟨x0,z0,_,w0⟩:=DataW.trod_int e0 g0
     obtain⟨x1,z1,_,w1⟩:=DataW.trod_int e1 g1
     obtain⟨x2,z2,_,w2⟩:=DataW.trod_int e2 g2
     obtain⟨x3,z3,_,w3⟩:=DataW.trod_int e3 g3
     obtain⟨x4,z4,_⟩:=DataW.trod_string e4 g4
     obtain⟨x5,z5,_⟩:=DataW.trod_string e5 g5
     obtain⟨x6,z6,_,w6⟩:=DataW.trod_int e6 g6
     obtain⟨x7,z7,_,w7⟩:=DataW.trod_int e7 g7
     simp at z0 z1 z2 z3 z4 z5 z6 z7
     subst z0 z1 z2 z3 z4 z5 z6 z7
     obtain⟨r0,r0'⟩:=byte_nat w0
     obtain⟨r1,r1'⟩:=byte_nat w1
     obtain⟨r2,r2'⟩:=byte_nat w2
     obtain⟨r3,r3'⟩:=byte_nat w3
     refine⟨⟨x0.toNat,x1.toNat,x2.toNat,x3.toNat,x4.data.toList,x5.data.toList,x6,x7⟩,⟨r0,r1,r2,r3,bounds_i8 w6,bounds_i8 w7⟩,fun _=>?_⟩
     simp only [r0',r1',r2',r3',str_list]
     refine⟨?_,?_,?_,?_,?_,?_,?_,?_⟩
     ·have:=hcell 0 (by omega);simpa [Addr.add] using this
     ·have:=hcell 1 (by omega);rw [Go.Deep.add_add] at this;simpa using this
     ·have:=hcell 2 (by omega);rw [Go.Deep.add_add] at this;simpa using this
     ·have:=hcell 3 (by omega);rw [Go.Deep.add_add] at this;simpa using this
     ·have:=hcell 4 (by omega);rw [Go.Deep.add_add] at this;simpa using this
     ·have:=hcell 5 (by omega);rw [Go.Deep.add_add] at this;simpa using this
     ·have:=hcell 6 (by omega);rw [Go.Deep.add_add] at this;simpa using this
     ·have:=hcell 7 (by omega);rw [Go.Deep.add_add] at this;simpa using this
   ·exact⟨zeroOp,zeroOp_in,fun h=>absurd h hi⟩
  obtain⟨F,hF⟩:=Classical.axiomOfChoice each
  refine⟨some a,n,_,F,rfl,by unfold maxLen at hmx;omega,fun hn=>?_,fun j=>(hF j).1⟩
  have hc:=fun i hi=>(hF i).2 hi
  clear hF each
  obtain⟨b,off,el⟩:=a
  have h0:=(hc 0 hn).1
  have hel:el=none:=by simpa [Addr.add] using World.cell?_spot h0
  subst hel
  refine⟨b,off,rfl,?_,fun i hi=>?_⟩
  ·have:=World.block_lt_of_cell? _ _ h0
   rw [Go.WideShapes.add_plain] at this
   exact this
  ·obtain⟨q0,q1,q2,q3,q4,q5,q6,q7⟩:=hc i hi
   rw [Go.WideShapes.add_plain] at q0 q1 q2 q3 q4 q5 q6 q7
   exact⟨q0,q1,q2,q3,q4,q5,q6,q7⟩
end
def FewR (n:Nat)(f:Nat→OpV)(w:World)(e:Ending)(w':World):Prop:=∃b:Bool,e=.returned (.bool b)∧(b=true→n≤60∧∀j,j < n→(f j).s.length≤40∧(f j).t.length≤40)∧w'=w
theorem tfew_any {w:World}(A:Option Addr)(n c:Nat)(f:Nat→OpV)(h:InP w A n f)(hn:n≤9223372036854775807) :
  Calls Tryz.prog 11 #[.slice A n c] w (FewR n f w):=by
 have H:=Lib.hid h
 clear h
 go_enter Tryz.func11,Tryz.ntmps11
 go_wp2_with fail
 go_loop [3] (fun iv=>∃k:Nat,k≤n∧iv=.int .i64 (k:Int)∧∀j,j < k→(f j).s.length≤40∧(f j).t.length≤40) (fun iv=>n - (intOf iv).toNat)
 case atStart=>exact⟨0,Nat.zero_le _,rfl,fun j hj=>absurd hj (Nat.not_lt_zero j)⟩
 case round =>
  obtain⟨k,hkn,rfl,hS⟩:=hrel
  have HS:=Lib.hid hS
  clear hS
  by_cases hkl:k < n
  ·obtain⟨b,off,rfl,hb,hc⟩:=H.out (by omega)
   obtain⟨_,_,_,_,q4,q5,_,_⟩:=hc k hkl
   have hs1:(⟨(f k).s.toArray⟩:ByteArray).size=(f k).s.length:=by simp [ByteArray.size]
   have hs2:(⟨(f k).t.toArray⟩:ByteArray).size=(f k).t.length:=by simp [ByteArray.size]
   generalize hq:(⟨(f k).s.toArray⟩:ByteArray)=sk at *
   generalize hq2:(⟨(f k).t.toArray⟩:ByteArray)=tk at *
   clear hc hq hq2
   by_cases h20:40 < sk.size
   ·have d1:decide ((40:Int) < (sk.size:Int))=true:=by simp;omega
    go_wp2_with fail
    go_ret
    exact⟨false,rfl,(fun e=>by cases e),rfl⟩
   ·have d1:decide ((40:Int) < (sk.size:Int))=false:=by simp;omega
    by_cases h21:40 < tk.size
    ·have d2:decide ((40:Int) < (tk.size:Int))=true:=by simp;omega
     go_wp2_with fail
     go_ret
     exact⟨false,rfl,(fun e=>by cases e),rfl⟩
    ·have d2:decide ((40:Int) < (tk.size:Int))=false:=by simp;omega
     go_wp2_with fail
     go_round
     case rel =>
      refine⟨k+1,by omega,by go_num,fun j hj=>?_⟩
      by_cases e:j=k
      ·subst e;omega
      ·exact HS.out j (by omega)
     case measure=>simp [intOf];omega
  ·obtain rfl:k=n:=by omega
   by_cases h2:k≤60
   ·have d2:decide ((k:Int)≤60)=true:=by simp;omega
    go_wp2_with fail
    go_ret
    exact⟨true,rfl,fun _=>⟨h2,HS.out⟩,rfl⟩
   ·have d2:decide ((k:Int)≤60)=false:=by simp;omega
    go_wp2_with fail
    go_ret
    exact⟨false,rfl,(fun e=>by cases e),rfl⟩
end Go.Proofs.YtfelmdkeaacfeaaGreatDoor.W
end
