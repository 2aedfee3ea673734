/- Texts joined: MkA DoM DoN DoK. -/
import Derived.Test.YtfelmdkeaacfeaaGreatDoorTM23
import Derived.Test.YtfelmdkeaacfeaaGreatDoorTM36
import Derived.Test.YtfelmdkeaacfeaaGreatDoorTM1
set_option maxRecDepth 100000
set_option maxHeartbeats 40000000
set_option linter.unusedVariables false
set_option linter.unusedSimpArgs false
section
namespace Go.Proofs.YtfelmdkeaacfeaaGreatDoor.W
open Go.RowKit
theorem mkT_no {B R:Nat}{S:Tr}{sv fv:Value}{w:World}(h:TAt B R S sv fv w)(kind:Int)(h2:kind≠2)(h3:kind≠3)(h4:kind≠4)(name data:List UInt8)(v:Value)(al:List Atr) :
  Calls Tryz.prog 39 #[.pointer (some ⟨R,0,none⟩),.int .i64 kind,.string ⟨name.toArray⟩,.string ⟨data.toArray⟩,v] w (MakTR B R S sv fv w kind name data al):=by
 have HT:=Lib.hid h
 have HM:=Lib.hid (MakT.kind (W:=w.heap.size) (S:=S) (name:=name) (data:=data) (al:=al) h2 h3 h4)
 have d2:(kind == 2)=false:=by simpa using h2
 have d3:(kind == 3)=false:=by simpa using h3
 have d4:(kind == 4)=false:=by simpa using h4
 clear h h2 h3 h4
 go_enter Tryz.func39,Tryz.ntmps39
 go_wp2_with fail
 go_ret2
 exact MakTR.same HT.out ((Below.refl _ _).alloc (Nat.le_refl _) _) HM.out
theorem mkT_any {B R:Nat}{S:Tr}{sv fv:Value}{w:World}(h:TAt B R S sv fv w)(hT:Laid w)(hfr:∀i∈S.free,S.slots[i]? = some none)(hfl:S.free.length≤1000000)(hl:S.slots.length < 20000)(kind:Int)(name data:List UInt8)(hn:name.length≤1000)(hd:data.length≤1000)(v:Value)(al:List Atr)(hv:Own w 91 2 v al.length (attrC al))(hal:al.length≤100)(has:∀a∈al,a.1.length≤1000∧a.2.length≤1000) :
  Calls Tryz.prog 39 #[.pointer (some ⟨R,0,none⟩),.int .i64 kind,.string ⟨name.toArray⟩,.string ⟨data.toArray⟩,v] w (MakTR B R S sv fv w kind name data al):=by
 by_cases h2:kind=2
 ·subst h2;exact mkT_el h hT hfr hfl hl name data hn v al hv hal has
 by_cases h3:kind=3
 ·subst h3;exact mkT_3 h hT hfr hfl hl name data hd v al
 by_cases h4:kind=4
 ·subst h4;exact mkT_4 h hT hfr hfl hl name data hd v al
 exact mkT_no h kind h2 h3 h4 name data v al
section
variable {ex : Prop} {E : Nat → Prop} {c x : Nat} {B : Nat} {w0 : World} {l : List Ob} {g R Q : Nat} {S S' : Tr} {K : Nat → List Nat} {d : Nat → Nat} {X X' : List MX} {σ : Nat → Nat} {o : OpV}
theorem hsOf_snoc {M:List MN}{m:MN}(hg:m.gone=false){s:Nat}(hb:S'.b=S.b)(hs:S'.s=S.s):hsOf S' (sNew M σ s) (M ++ [m])=hsOf S σ M ++ [S.hd s]:=by
 have hh:∀i,S'.hd i=S.hd i:=fun i=>by unfold Tr.hd;rw [hb,hs]
 unfold hsOf
 rw [List.length_append,List.length_singleton,List.range_succ,List.map_append]
 congr 1
 ·refine List.map_congr_left fun i hi=>?_
  have hi:=List.mem_range.1 hi
  rw [lv_snoc M m hg,if_neg (show ¬i=M.length by omega),hh]
  unfold sNew
  rw [if_neg (show ¬i=M.length by omega)]
 ·rw [List.map_singleton,lv_snoc M m hg,if_pos rfl,hh]
  unfold sNew
  rw [if_pos rfl];rfl
theorem makT_add {W0:Nat}{kind h en:Int}{name data:List UInt8}{al:List Atr}(ht:MakT W0 S kind name data al S' h en)(h0:en=0):∃n,S'=S.add n:=by
 cases ht with
 | kind _ _ _=>omega
 | arg _ _=>omega
 | many _ _ _=>omega
 | el av _ _ _ _=>exact⟨_,rfl⟩
 | tx _=>exact⟨_,rfl⟩
theorem mmak_add {M M':List MN}{kind en:Int}{name data:List UInt8}{al:List Atr}(ht:MMak M kind name data al M' en)(h0:en=0):∃m,M'=M ++ [m]∧m.gone=false:=by
 cases ht with
 | arg _ _=>omega
 | el _ _=>exact⟨_,rfl,rfl⟩
 | tx _=>exact⟨_,rfl,rfl⟩
theorem attO_ok (ho:o.Ok):(attO o).length≤2∧∀a∈attO o,a.1.length≤200∧a.2.length≤50:=by
 have h1:=ho.s
 have h2:=ho.t
 unfold attO
 split
 ·refine⟨Nat.le_refl _,fun a ha=>?_⟩
  rcases List.mem_cons.1 ha with rfl | ha
  ·exact⟨by show o.t.length≤200;omega,by show o.s.length≤50;omega⟩
  ·rcases List.mem_cons.1 ha with rfl | ha
   ·exact⟨by show 1≤200;omega,by show o.t.length≤50;omega⟩
   ·cases ha
 ·exact⟨Nat.zero_le _,fun a ha=>by cases ha⟩
theorem do_made (T:TwS ex E c x S K d (ms X) σ)(hE:∀y,E y→(S.at y).isSome=true)(hX:X.length≤600)(hx:x≤2000)(ho:o.Ok)(hk:o.k % 10 < 3){W0:Nat}{h en er:Int}
  (hm:MMak (ms X) ((2+o.k % 10:Nat):Int) o.s o.t (attO o) (ms X') en)(ht:MakT W0 S ((2+o.k % 10:Nat):Int) o.s o.t (attO o) S' h er) :
  er=en∧((en≠0∧h=0∧∀w hv sv fv nv,All B w0 (twL g R Q hv (hsOf S σ (ms X)) S' sv fv nv X' ++ l) w→DoR ex E c x B w0 l g R Q S K d (ms X) σ o (.returned (.tuple #[.slice none 0 0,.bool true])) w) ∨
   (en=0∧h≠0∧∀w hv sv fv nv,All B w0 (twL g R Q hv (hsOf S σ (ms X) ++ [h]) S' sv fv nv X' ++ l) w→DoR ex E c x B w0 l g R Q S K d (ms X) σ o (.returned (.tuple #[.slice none 0 0,.bool true])) w)):=by
 obtain⟨a1,a2⟩:=attO_ok ho
 have hE0:¬E S.addI:=fun he=>by
  have h1:=hE _ he
  rw [(added_of T.ok.fr T.ok.frnd (mkN 3 [] (.slice none 0 0) [] [])).no] at h1
  cases h1
 have hl:=T.lim
 rw [ms_len] at hl
 have hss:=ho.s
 have htt:=ho.t
 obtain⟨he,hcase⟩:=T.tw.make T.ok hm ht (by omega) (by omega) (by omega) a1 a2 hE0 (by rw [ms_len];omega) (by omega)
 refine⟨he,?_⟩
 rcases hcase with ⟨e1,rfl,hM,rfl⟩ | ⟨e0,hh,hlen,hT,hW⟩
 ·left
  refine⟨by omega,rfl,fun w hv sv fv nv hA=>?_⟩
  rw [← hM] at hA
  refine⟨.slice none 0 0,true,S',K,d,X',σ,hv,sv,fv,nv,[],[],[],rfl,hA.nil _ _,⟨?_,?_,T.cl,?_⟩,fun _=>⟨rfl,rfl⟩,rfl,rfl,fun y _=>⟨rfl,rfl⟩,.make _ en hk hm,⟨fun i m hi=>?_,?_⟩,.inl ⟨by omega,rfl⟩⟩
  ·exact T.ok.mono (Nat.le_succ c)
  ·rw [hM];exact T.tw.mono (Nat.le_succ c)
  ·rw [hM];exact T.lim
  ·rw [hM] at hi
   rw [sExt_old (lv_live ⟨m,hi⟩)]
  ·rw [hM,Nat.sub_self];simp [nxN]
 ·right
  obtain⟨n,rfl⟩:=makT_add ht (by omega)
  obtain⟨m,hM,hg⟩:=mmak_add hm e0
  have k:=added_of T.ok.fr T.ok.frnd n
  have hn0:h≠0:=by
   have h1:=(hd_ok (S:=S.add n) hT.lk (i:=S.addI) (n:=n) (by rw [k.at_,if_pos rfl])).2
   rw [hh]
   have h2:(S.add n).hd S.addI=S.hd S.addI:=by unfold Tr.hd;rw [k.eb,k.es]
   omega
  refine⟨e0,hn0,fun w hv sv fv nv hA=>?_⟩
  have hHs:hsOf S σ (ms X) ++ [h]=hsOf (S.add n) (sNew (ms X) σ S.addI) (ms X'):=by rw [hM,hsOf_snoc hg k.eb k.es,hh]
  rw [hHs] at hA
  have hfl:=add_fl S n
  refine⟨.slice none 0 0,true,S.add n,K,dAdd d S.addI,X',sNew (ms X) σ S.addI,hv,sv,fv,nv,[],[],[],rfl,hA.nil _ _,⟨hT.mono (Nat.le_succ c),hW.mono (Nat.le_succ c),T.cl,?_⟩,fun _=>⟨rfl,rfl⟩,k.eb,k.es,fun y hy=>⟨?_,rfl⟩,.make _ en hk hm,⟨fun i mi hi=>?_,?_⟩,.inl ⟨by omega,rfl⟩⟩
  ·have:=k.len
   rw [hlen,ms_len];omega
  ·rw [k.at_,if_neg (fun e=>hE0 (by rw [← e];exact hy))]
  ·have hi:=lv_live ⟨mi,hi⟩
   rw [hlen,Nat.add_sub_cancel_left]
   unfold sNew sExt
   by_cases e:i=(ms X).length
   ·rw [if_pos e,if_neg (by omega),e,Nat.sub_self];rfl
   ·rw [if_neg e,if_pos (by omega)]
  ·rw [hlen,Nat.add_sub_cancel_left,hfl]
   show _=((nxN 0 (nxF S.fl)).1 ++ [],(nxN 0 (nxF S.fl)).2)
   rw [List.append_nil];rfl
end
section
variable {B : Nat} {w0 w w' : World} {l : List Ob} {g R Q b : Nat} {hv sv fv nv : Value} {S : Tr} {X : List MX} {Hs : List Int} {o : OpV} {x : Ob}
theorem mak_out {kind:Int}{name data:List UInt8}{al:List Atr}{e:Ending}(h:MakTR 0 R S sv fv w kind name data al e w')(hfr:∀i∈S.free,S.slots[i]? = some none)(hnd:S.free.Nodup):∃S' sv' fv' h er,MakT w.heap.size S kind name data al S' h er∧e=.returned (.tuple #[.int .i64 h,.int .i64 er])∧TrOut R S sv fv w S' sv' fv' w':=by
 obtain⟨S',sv',fv',h,er,hm,he,hT,hC,h1,h2⟩:=h
 refine⟨S',sv',fv',h,er,hm,he,hT,hC.mono (fun k _ hk=>hk.imp id .inl),fun k hk=>?_⟩
 rcases hk with rfl | hk | hk | ⟨i,n,hi,ha,hk⟩
 ·exact .inl (.inl rfl)
 ·rcases h1 with e | ⟨q,e,hq⟩
  ·exact .inl (.inr (.inl (by rw [← e];exact hk)))
  ·rw [e] at hk;cases hk;exact .inr hq
 ·exact .inl (.inr (.inr (.inl (by rw [← h2];exact hk))))
 ·have old:S'.at i=S.at i→trF R S sv fv k∨w.heap.size≤k:=fun e=>.inl (.inr (.inr (.inr ⟨i,n,by rw [← e];exact hi,ha,hk⟩)))
  cases hm with
  | kind _ _ _=>exact old rfl
  | arg _ _=>exact old rfl
  | many _ _ _=>exact old rfl
  | el av e hb hl hf =>
   have kk:=added_of hfr hnd (mkN 2 name av (al.map fun a=>(a.1,fix a.2)) [])
   by_cases e:i=S.addI
   ·rw [kk.at_,if_pos e] at hi
    cases hi
    exact .inr (hf k hk)
   ·exact old (by rw [kk.at_,if_neg e])
  | tx e =>
   have kk:=added_of hfr hnd (mkN kind [] (.slice none 0 0) [] (fix data))
   by_cases e:i=S.addI
   ·rw [kk.at_,if_pos e] at hi
    cases hi
    exact absurd rfl ha
   ·exact old (by rw [kk.at_,if_neg e])
theorem TrOut.all1 {S':Tr}{sv' fv':Value}(k:TrOut R S sv fv w S' sv' fv' w')(h:All B w0 (x :: (twL g R Q hv Hs S sv fv nv X ++ l)) w):All B w0 (x :: (twL g R Q hv Hs S' sv' fv' nv X ++ l)) w' :=
 h.step [x,bk g [.pointer (some ⟨R,0,none⟩),.pointer (some ⟨Q,0,none⟩),hv] 33,sl 3 1 hv Hs.length (hC Hs)] (o:=trO R S sv fv) (o':=trO R S' sv' fv') (l2:=mdO Q nv X :: l) k.at_ k.chg k.new
def mkA (v:Value)(o:OpV):Ob:=sl 92 2 v (attO o).length (attrC (attO o))
def KRes (B:Nat)(w0:World)(l:List Ob)(g R Q:Nat)(hv:Value)(Hs:List Int)(S:Tr)(nv:Value)(X:List MX)(b:Nat)(o:OpV)(va:Value)(v:Value)(w':World):Prop :=
 ∃W0 S' sv' fv' h er,v=.tuple #[.int .i64 h,.int .i64 er]∧MakT W0 S ((2+o.k % 10:Nat):Int) o.s o.t (attO o) S' h er∧All B w0 (mkA va o :: (twL g R Q hv Hs S' sv' fv' nv X ++ l)) w'∧Blk w' b (opC o) 39
theorem kres_below {va:Value}(v:Value)(w1 w2:World)(h:KRes B w0 l g R Q hv Hs S nv X b o va v w1)(hb:Below w1.heap.size w1 w2):KRes B w0 l g R Q hv Hs S nv X b o va v w2:=by
 obtain⟨W0,S',sv',fv',h,er,e,hr,hA,hk⟩:=h
 exact⟨W0,S',sv',fv',h,er,e,hr,hA.still hb,hk.below hb⟩
theorem kres_of {va:Value}(hA:All B w0 (mkA va o :: (twL g R Q hv Hs S sv fv nv X ++ l)) w)(hk:Blk w b (opC o) 39)(hfr:∀i∈S.free,S.slots[i]? = some none)(hnd:S.free.Nodup){e:Ending}(h:MakTR 0 R S sv fv w ((2+o.k % 10:Nat):Int) o.s o.t (attO o) e w'):∃v,e=.returned v∧(∃h er,v=.tuple #[.int .i64 h,.int .i64 er])∧KRes B w0 l g R Q hv Hs S nv X b o va v w':=by
 obtain⟨S',sv',fv',h,er,hm,rfl,hTo⟩:=mak_out h hfr hnd
 exact⟨_,rfl,⟨_,_,rfl⟩,_,S',sv',fv',_,er,rfl,hm,hTo.all1 hA,box_keep hk hTo (tw_tr hA.tail)⟩
theorem kres_S {va:Value}(v:Value)(w':World)(h:KRes B w0 l g R Q hv Hs S nv X b o va v w'):DoM g R Q b hv o w':=by
 obtain⟨W0,S',sv',fv',h,er,e,hr,hA,hk⟩:=h
 exact⟨tw_bk hA.tail,hk⟩
def KMes (B:Nat)(w0:World)(l:List Ob)(g R Q:Nat)(hv:Value)(Hs:List Int)(S:Tr)(sv fv:Value)(X:List MX)(b:Nat)(o:OpV)(va:Value)(v:Value)(w':World):Prop :=
 ∃X' gm cap en,v=.int .i64 en∧MMak (ms X) ((2+o.k % 10:Nat):Int) o.s o.t (attO o) (ms X') en∧All B w0 (mkA va o :: (twL g R Q hv Hs S sv fv (.slice (some ⟨gm,0,none⟩) X'.length cap) X' ++ l)) w'∧Blk w' b (opC o) 39
theorem kmes_below {va:Value}(v:Value)(w1 w2:World)(h:KMes B w0 l g R Q hv Hs S sv fv X b o va v w1)(hb:Below w1.heap.size w1 w2):KMes B w0 l g R Q hv Hs S sv fv X b o va v w2:=by
 obtain⟨X',gm,cap,en,e,hr,hA,hk⟩:=h
 exact⟨X',gm,cap,en,e,hr,hA.still hb,hk.below hb⟩
theorem kmes_of {va:Value}{gm cap:Nat}(hA:All B w0 (mkA va o :: (twL g R Q hv Hs S sv fv (.slice (some ⟨gm,0,none⟩) X.length cap) X ++ l)) w)(hk:Blk w b (opC o) 39){e:Ending}(h:MMakR Q gm cap X w ((2+o.k % 10:Nat):Int) o.s o.t (attO o) e w'):∃v,e=.returned v∧(∃en,v=.int .i64 en)∧KMes B w0 l g R Q hv Hs S sv fv X b o va v w':=by
 obtain⟨X',gm',cap',en,hm,rfl,hM⟩:=h
 exact⟨_,rfl,⟨_,rfl⟩,X',gm',cap',en,rfl,hm,hM.tw hA,mbox_keep hk (tw_md hA.tail) hM⟩
theorem kmes_S {va:Value}(v:Value)(w':World)(h:KMes B w0 l g R Q hv Hs S sv fv X b o va v w'):DoM g R Q b hv o w':=by
 obtain⟨X',gm,cap,en,e,hr,hA,hk⟩:=h
 exact⟨tw_bk hA.tail,hk⟩
theorem tw_push {v8:Value}{hh:Int}(h:All B w0 ([bk g [.pointer (some ⟨R,0,none⟩),.pointer (some ⟨Q,0,none⟩),hv] 33] ++ sl 3 1 v8 (Hs.length+1) (hC Hs ++ [.int .i64 hh]) :: ([trO R S sv fv,mdO Q nv X] ++ l)) w):All B w0 (twL g R Q v8 (Hs ++ [hh]) S sv fv nv X ++ l) (w.setCell ⟨g,2,none⟩ v8):=by
 have h1:=h.setBk [] 2 v8
 unfold twL
 rw [List.length_append,show hC (Hs ++ [hh])=hC Hs ++ [.int .i64 hh] by unfold hC;rw [List.map_append];rfl]
 exact h1
end
theorem do_mk {kk:Nat}(hkk:kk=0∨kk=1∨kk=2){ex:Prop}{E:Nat→Prop}{c x:Nat}{B:Nat}{w0 w:World}{l:List Ob}{g R Q:Nat}{hv sv fv nv:Value}{S:Tr}{K:Nat→List Nat}{d:Nat→Nat}{X:List MX}{σ : Nat→Nat}
  (hLd:Laid w)(h:All B w0 (twL g R Q hv (hsOf S σ (ms X)) S sv fv nv X ++ l) w)(T:TwS ex E c x S K d (ms X) σ)(hX:X.length≤600)(hx:x≤2000)(hce:ex→c≤60)(hc6:c≤200)(o:OpV)(ho:o.Ok)(hk:o.k % 10=kk)(hE:∀y,E y→(S.at y).isSome=true) :
  Calls Tryz.prog 13 #[.pointer (some ⟨g,0,none⟩),.agg (opC o).toArray] w (DoR ex E c x B w0 l g R Q S K d (ms X) σ o):=by
 have hD:=doI_of h T hX hx ho
 obtain⟨Hs,hHs⟩:∃Hs,Hs=hsOf S σ (ms X):=⟨_,rfl⟩
 rw [← hHs] at h
 have hHl:Hs.length=X.length:=by rw [hHs,hsOf_len,ms_len]
 have hHp:0 < X.length:=hD.pos
 obtain⟨hva,hvc,hvv⟩:=own_shape (tw_hs h)
 rw [hHl] at hvv
 subst hvv
 have HAl:=Lib.hid h
 have HT:=Lib.hid T
 have HO:=Lib.hid ho
 have HHs:=Lib.hid hHs
 have HHl:=Lib.hid hHl
 have HLd:=Lib.hid hLd
 have hbk:=tw_bk h
 have g1:=hbk.cell 1
 have g2:=hbk.cell 2
 simp only [zzD,zzE] at g1 g2
 have hgl:=hbk.lt
 have hgz:=hbk.free
 have hb1:=(Below.refl w.heap.size w).alloc (Nat.le_refl _) (.cells (opC o).toArray 39)
 have k1:=Blk.new w (opC o) 39
 have hra:(o.a:Int) % (X.length:Int)=((o.iA X.length:Nat):Int):=rfl
 have hrb:(o.b:Int) % (X.length:Int)=((o.iB X.length:Nat):Int):=rfl
 have hrc:=wrap_iC o (n:=X.length) (by omega)
 have hrk:(o.k:Int) % 10=(kk:Int):=by omega
 have hal:o.iA X.length < X.length:=Nat.mod_lt _ hHp
 have hbl:o.iB X.length < X.length:=Nat.mod_lt _ hHp
 have hn0:¬(X.length:Int)=0:=by omega
 have hn1:¬(X.length:Int)+1=0:=by omega
 have hoa:=ho.a
 have hob:=ho.b
 have hoc:=ho.c
 have hok:=ho.k
 have HHas:=Lib.hid (fun wx (hb:Below w.heap.size w wx) i (hi:i≤1000000)=>hasT (h.still hb) i hi (by have:=hD.pos;omega))
 clear h T ho hHs hbk hLd
 simp only [opC] at k1 hb1 ⊢
 rcases hkk with rfl | rfl | rfl
 all_goals
  go_enter Tryz.func13,Tryz.ntmps13
  go_upto_region 2 with fail
  generalize w.alloc (.cells #[.int .u8 o.k,.int .u8 o.a,.int .u8 o.b,.int .u8 o.c,.string ⟨o.s.toArray⟩,.string ⟨o.t.toArray⟩,.int .i8 o.n,.int .i8 o.kk] 39)=w1 at *
  have hne:=stb_ne w1
  have x1:=fun(x:InS (StB w1))=>(k1.below x.h).cell 1
  have x2:=fun(x:InS (StB w1))=>(k1.below x.h).cell 2
  have x3:=fun(x:InS (StB w1))=>(k1.below x.h).cell 3
  simp only [zzD,zzE] at x1 x2 x3
  refine reg_f (fun _ _=>True) (fun _ _=>True) 20 (by kernel_rfl) (by kernel_rfl) (fun _ _ _ _ _=>trivial) trivial ?_
  simp only [zzF,zzG,zzH,zzI]
  repeat (first
   | (refine RV.m_held (by rfl) (by rfl) (fun K hK=>?_);go_big_quiet_step (fail);refine wpQuiet_nil ?_;refine hK.out _ ?_;clear hK K)
   | (refine RV.m_skip (by rfl) ?_;simp only [Act.put,zzA,zzB,zzC]))
  refine RV.m_nil ?_
  intro w2 hb2' _
  have HB2:=Lib.hid (bthen hb1 hb2')
  have HK2:=Lib.hid (k1.below hb2')
  clear x1 x2 x3 hne hb1 hb2' k1 g1 g2 hHl
  rw [hra,hrb,hrc]
  have HA2:=Lib.hid (HAl.out.still HB2.out)
  have c0:=HK2.out.cell 0
  have c6:=HK2.out.cell 6
  have g1:=(tw_bk HA2.out).cell 1
  simp only [zzD,zzE] at c0 c6 g1
  have hgl2:=(tw_bk HA2.out).lt
  have hgz2:=(tw_bk HA2.out).free
  have hxl2:=HK2.out.lt
  clear hgl hgz
  go_wp2_with fail
  refine(HHas.out w2 HB2.out _ (by omega)).mono ?_
  rintro e w3 ⟨rfl,hw⟩
  rw [hw]
  clear hw
  by_cases hn:0 < o.n
  case neg =>
   have hnb:decide (0 < o.n)=false:=by simpa using hn
   have hat:attO o=[]:=by unfold attO;rw [if_neg hn]
   have HA4:=Lib.hid (show All B w0 (mkA (.slice none 0 0) o :: (twL g R Q (.slice hva X.length hvc) Hs S sv fv nv X ++ l)) w2 by unfold mkA;rw [hat];exact HA2.out.nil _ _)
   have HOa:=Lib.hid (show Own w2 91 2 (.slice none 0 0) (attO o).length (attrC (attO o)) by rw [hat];exact World.ownsRow_nil _ _ _ _)
   have HB4:=Lib.hid HB2.out
   have HK4:=Lib.hid HK2.out
   go_upto_region 25 with fail
   clear HA2 HK2 HB2 c0 c6 g1 hgl2 hgz2 hxl2 hat
   haveI hne:Nonempty (InS (DoM g R Q w.heap.size (.slice hva X.length hvc) o)):=⟨⟨w2,tw_bk HA4.out.tail,HK4.out⟩⟩
   have y0:=fun(x:InS (DoM g R Q w.heap.size (.slice hva X.length hvc) o))=>x.h.bk.cell 0
   have z4:=fun(x:InS (DoM g R Q w.heap.size (.slice hva X.length hvc) o))=>x.h.bx.cell 4
   have z5:=fun(x:InS (DoM g R Q w.heap.size (.slice hva X.length hvc) o))=>x.h.bx.cell 5
   simp only [opC,zzD,zzE] at y0 z4 z5
   refine reg_g (DoM g R Q w.heap.size (.slice hva X.length hvc) o) (TF w2 (KRes B w0 l g R Q (.slice hva X.length hvc) Hs S nv X w.heap.size o (.slice none 0 0))) (fun _ v=>∃h er,v=.tuple #[.int .i64 h,.int .i64 er]) 16 (by kernel_rfl) (by kernel_rfl) (tf_S (fun w' h=>⟨tw_bk (HA4.out.still h).tail,HK4.out.below h⟩) kres_S) (tf_below kres_below) (Below.refl _ _) ?_
   simp only [zzF,zzG,zzH,zzI]
   repeat (first
    | (refine RV.m_held (by rfl) (by rfl) (fun K hK=>?_);go_big_quiet_step (fail);refine wpQuiet_nil ?_;refine hK.out _ ?_;clear hK K)
    | (refine RV.m_skip (by rfl) ?_;simp only [Act.put,zzA,zzB,zzC]))
   refine RV.m_call (by rfl) (by rfl) (fun w=>by go_simp;exact⟨rfl,rfl⟩) (⟨_,0,0,rfl⟩) (fun X wx hx=>?_) (fun v hv=>?_)
   ·have hx2:Below w2.heap.size w2 wx:=hx
    have hA3:=HA4.out.still hx2
    have hk3:=HK4.out.below hx2
    have hT2:TAt 0 R S sv fv wx:=tw_tr hA3.tail
    have ha:=attO_ok HO.out
    have hcl:=mkT_any hT2 ((HLd.out.below HB4.out).below hx2) HT.out.ok.fr (by have:=HT.out.ok.freel;have:=hD.sl;omega) (by have:=hD.sl;omega) ((2+o.k % 10:Nat):Int) o.s o.t (by have:=HO.out.s;omega) (by have:=HO.out.t;omega) (.slice none 0 0) (attO o) (own_belowM HOa.out hx2) (by omega) (fun a h=>by have:=ha.2 a h;omega)
    rw [hk] at hcl
    refine hcl.mono ?_
    intro e wy hy
    first
     | rw [show((2+0:Nat):Int)=((2+o.k % 10:Nat):Int) by rw [hk]] at hy
     | rw [show((2+1:Nat):Int)=((2+o.k % 10:Nat):Int) by rw [hk]] at hy
     | rw [show((2+2:Nat):Int)=((2+o.k % 10:Nat):Int) by rw [hk]] at hy
    obtain⟨v,rfl,hsh,hr⟩:=kres_of hA3 hk3 HT.out.ok.fr HT.out.ok.frnd hy
    exact⟨v,rfl,hsh,hr⟩
   obtain⟨hh,er,rfl⟩:=hv
   simp only [Act.put,zzA,zzB,zzC]
   repeat (first
    | (refine RV.m_held (by rfl) (by rfl) (fun K hK=>?_);go_big_quiet_step (fail);refine wpQuiet_nil ?_;refine hK.out _ ?_;clear hK K)
    | (refine RV.m_skip (by rfl) ?_;simp only [Act.put,zzA,zzB,zzC]))
   refine RV.m_nil ?_
   intro w5 hF
   obtain⟨W0,S',sv',fv',hh',er',he,hres,hA5,hK5⟩:=hF
   simp only [Value.tuple.injEq,List.toArray_inj,Array.mk.injEq,List.cons.injEq,Value.int.injEq,and_true,true_and] at he
   obtain⟨rfl,rfl⟩:=he
   have HA5:=Lib.hid hA5
   have HK5:=Lib.hid hK5
   have HRes:=Lib.hid hres
   clear y0 z4 z5 hne hA5 hK5 hres
   obtain⟨gm,capm,rfl⟩:=(tw_md HA5.out.tail).W.shape hHp
   go_upto_region 27 with fail
   haveI hne:Nonempty (InS (DoM g R Q w.heap.size (.slice hva X.length hvc) o)):=⟨⟨w5,tw_bk HA5.out.tail,HK5.out⟩⟩
   have y1:=fun(x:InS (DoM g R Q w.heap.size (.slice hva X.length hvc) o))=>x.h.bk.cell 1
   have z4:=fun(x:InS (DoM g R Q w.heap.size (.slice hva X.length hvc) o))=>x.h.bx.cell 4
   have z5:=fun(x:InS (DoM g R Q w.heap.size (.slice hva X.length hvc) o))=>x.h.bx.cell 5
   simp only [opC,zzD,zzE] at y1 z4 z5
   refine reg_g (DoM g R Q w.heap.size (.slice hva X.length hvc) o) (TF w5 (KMes B w0 l g R Q (.slice hva X.length hvc) Hs S' sv' fv' X w.heap.size o (.slice none 0 0))) (fun _ v=>∃en,v=.int .i64 en) 12 (by kernel_rfl) (by kernel_rfl) (tf_S (fun w' h=>⟨tw_bk (HA5.out.still h).tail,HK5.out.below h⟩) kmes_S) (tf_below kmes_below) (Below.refl _ _) ?_
   simp only [zzF,zzG,zzH,zzI]
   repeat (first
    | (refine RV.m_held (by rfl) (by rfl) (fun K hK=>?_);go_big_quiet_step (fail);refine wpQuiet_nil ?_;refine hK.out _ ?_;clear hK K)
    | (refine RV.m_skip (by rfl) ?_;simp only [Act.put,zzA,zzB,zzC]))
   refine RV.m_call (by rfl) (by rfl) (fun w=>by go_simp;exact⟨rfl,rfl⟩) (⟨_,0,rfl⟩) (fun X wx hx=>?_) (fun v hv=>?_)
   ·have hx2:Below w5.heap.size w5 wx:=hx
    have hA3:=HA5.out.still hx2
    have hk3:=HK5.out.below hx2
    have ha:=attO_ok HO.out
    have ho3:Own wx 92 2 (.slice none 0 0) (attO o).length (attrC (attO o)):=hA3.head
    have hcl:=mmake_any (tw_md hA3.tail) (by omega) ((2+o.k % 10:Nat):Int) (by omega) (by omega) o.s o.t (by have:=HO.out.s;omega) (by have:=HO.out.t;omega) (.slice none 0 0) (attO o) ho3 (by omega) (fun a h=>by have:=ha.2 a h;omega)
    rw [hk] at hcl
    refine hcl.mono ?_
    intro e wy hy
    first
     | rw [show((2+0:Nat):Int)=((2+o.k % 10:Nat):Int) by rw [hk]] at hy
     | rw [show((2+1:Nat):Int)=((2+o.k % 10:Nat):Int) by rw [hk]] at hy
     | rw [show((2+2:Nat):Int)=((2+o.k % 10:Nat):Int) by rw [hk]] at hy
    obtain⟨v,rfl,hsh,hr⟩:=kmes_of hA3 hk3 hy
    exact⟨v,rfl,hsh,hr⟩
   obtain⟨en,rfl⟩:=hv
   simp only [Act.put,zzA,zzB,zzC]
   repeat (first
    | (refine RV.m_held (by rfl) (by rfl) (fun K hK=>?_);go_big_quiet_step (fail);refine wpQuiet_nil ?_;refine hK.out _ ?_;clear hK K)
    | (refine RV.m_skip (by rfl) ?_;simp only [Act.put,zzA,zzB,zzC]))
   refine RV.m_nil ?_
   intro w7 hF
   obtain⟨X',gm',capm',en',he,hmm,hA7,hK7⟩:=hF
   obtain rfl:en=en':=by simpa using he
   clear he
   have HMm:=Lib.hid hmm
   clear hmm
   obtain⟨hee,hc⟩:=do_made (B:=B) (w0:=w0) (l:=l) (g:=g) (R:=R) (Q:=Q) HT.out hE hX hx HO.out (by omega) HMm.out HRes.out
   subst hee
   have HA7:=Lib.hid hA7.tail
   clear y1 z4 z5 hne hA7 hK7
   rcases hc with ⟨h0,rfl,hc⟩ | ⟨rfl,hh0,hc⟩
   case inl =>
    have HC:=Lib.hid hc
    clear hc
    have e0:(er == 0)=false:=by simpa using h0
    go_wp2_with fail
    go_ret2
    rw [← HHs.out] at HC
    exact HC.out _ _ _ _ _ HA7.out
   case inr =>
    have HC:=Lib.hid hc
    clear hc
    have e0:(hh == 0)=false:=by simpa using hh0
    have e1:(hh != 0)=true:=by simpa using hh0
    have g2:=(tw_bk HA7.out).cell 2
    simp only [zzD,zzE] at g2
    have hgl7:=(tw_bk HA7.out).lt
    have hgz7:=(tw_bk HA7.out).free
    go_wp2_with (at_builtin;go_loud (refine wpList_append_all etI [bk g [.pointer (some ⟨R,0,none⟩),.pointer (some ⟨Q,0,none⟩),.slice hva X.length hvc] 33] (l2:=[trO R S' sv' fv',mdO Q (.slice (some ⟨gm',0,none⟩) X'.length capm') X'] ++ l) (HA7.out.alloc _) (own_at (n:=1) (size:=1) (Blk.new w7 [.int .i64 hh] 3) rfl (by omega)) (by intro u hu;simp at hu;subst hu;rfl) (by have:=HHl.out;omega) (by omega) rfl _ _ rfl rfl rfl ?_);intro v8 w8 hA8;have b8:Blk w8 g [.pointer (some ⟨R,0,none⟩),.pointer (some ⟨Q,0,none⟩),.slice hva X.length hvc] 33:=hA8.P (bk g [.pointer (some ⟨R,0,none⟩),.pointer (some ⟨Q,0,none⟩),.slice hva X.length hvc] 33) (by simp);obtain⟨va8,vc8,rfl⟩:=own_shape (show Own w8 3 1 v8 (Hs.length+1) (hC Hs ++ [Value.int .i64 hh]) from hA8.P (sl 3 1 v8 (Hs.length+1) (hC Hs ++ [Value.int .i64 hh])) (List.mem_cons_of_mem _ List.mem_cons_self));have q8:=b8.cell 2;simp only [zzD,zzE] at q8;have hgl8:=b8.lt;have hgz8:=b8.free;have HA8:=Lib.hid hA8;clear hA8 b8)
    go_wp2_with fail
    go_ret2
    rw [← HHs.out] at HC
    exact HC.out _ _ _ _ _ (tw_push HA8.out)
  case pos =>
   have hnb:decide (0 < o.n)=true:=by simpa using hn
   have hat:attO o=[(o.t,o.s),([107],o.t)]:=by unfold attO;rw [if_pos hn]
   have c4:=HK2.out.cell 4
   have c5:=HK2.out.cell 5
   simp only [zzD,zzE] at c4 c5
   have k1:=Blk.new w2 [.string ⟨o.t.toArray⟩,.string ⟨o.s.toArray⟩,.string ⟨#[107]⟩,.string ⟨o.t.toArray⟩] 91
   have k2:=Blk.new (w2.alloc (.cells #[.string ⟨o.t.toArray⟩,.string ⟨o.s.toArray⟩,.string ⟨#[107]⟩,.string ⟨o.t.toArray⟩] 91)) [.string ⟨o.t.toArray⟩,.string ⟨o.s.toArray⟩,.string ⟨#[107]⟩,.string ⟨o.t.toArray⟩] 92
   have hsz:(w2.alloc (.cells #[.string ⟨o.t.toArray⟩,.string ⟨o.s.toArray⟩,.string ⟨#[107]⟩,.string ⟨o.t.toArray⟩] 91)).heap.size=w2.heap.size+1:=by simp
   have hb24:Below w2.heap.size w2 ((w2.alloc (.cells #[.string ⟨o.t.toArray⟩,.string ⟨o.s.toArray⟩,.string ⟨#[107]⟩,.string ⟨o.t.toArray⟩] 91)).alloc (.cells #[.string ⟨o.t.toArray⟩,.string ⟨o.s.toArray⟩,.string ⟨#[107]⟩,.string ⟨o.t.toArray⟩] 92)):=((Below.refl _ _).alloc (Nat.le_refl _) _).alloc (by rw [hsz];omega) _
   rw [hsz] at k2
   have ho1:=own_at (n:=2) (size:=2) (k1.alloc (.cells #[.string ⟨o.t.toArray⟩,.string ⟨o.s.toArray⟩,.string ⟨#[107]⟩,.string ⟨o.t.toArray⟩] 92)) rfl (by omega)
   have ho2:=own_at (n:=2) (size:=2) k2 rfl (by omega)
   go_upto_region 25 with fail
   generalize ((w2.alloc (.cells #[.string ⟨o.t.toArray⟩,.string ⟨o.s.toArray⟩,.string ⟨#[107]⟩,.string ⟨o.t.toArray⟩] 91)).alloc (.cells #[.string ⟨o.t.toArray⟩,.string ⟨o.s.toArray⟩,.string ⟨#[107]⟩,.string ⟨o.t.toArray⟩] 92))=w4 at *
   have HA4:=Lib.hid (HA2.out.new (o:=mkA (.slice (some ⟨w2.heap.size+1,0,none⟩) 2 2) o) (show Own w4 92 2 (.slice (some ⟨w2.heap.size+1,0,none⟩) 2 2) (attO o).length (attrC (attO o)) by rw [hat];exact ho2) hb24 (by intro k hk;cases hk;exact Nat.le_succ _))
   have HOa:=Lib.hid (show Own w4 91 2 (.slice (some ⟨w2.heap.size,0,none⟩) 2 2) (attO o).length (attrC (attO o)) by rw [hat];exact ho1)
   have HB4:=Lib.hid (bthen HB2.out hb24)
   have HK4:=Lib.hid (HK2.out.below hb24)
   clear HA2 HK2 HB2 c0 c4 c5 c6 g1 hgl2 hgz2 hxl2 hat k1 k2 ho1 ho2 hb24 hsz
   haveI hne:Nonempty (InS (DoM g R Q w.heap.size (.slice hva X.length hvc) o)):=⟨⟨w4,tw_bk HA4.out.tail,HK4.out⟩⟩
   have y0:=fun(x:InS (DoM g R Q w.heap.size (.slice hva X.length hvc) o))=>x.h.bk.cell 0
   have z4:=fun(x:InS (DoM g R Q w.heap.size (.slice hva X.length hvc) o))=>x.h.bx.cell 4
   have z5:=fun(x:InS (DoM g R Q w.heap.size (.slice hva X.length hvc) o))=>x.h.bx.cell 5
   simp only [opC,zzD,zzE] at y0 z4 z5
   refine reg_g (DoM g R Q w.heap.size (.slice hva X.length hvc) o) (TF w4 (KRes B w0 l g R Q (.slice hva X.length hvc) Hs S nv X w.heap.size o (.slice (some ⟨w2.heap.size+1,0,none⟩) 2 2))) (fun _ v=>∃h er,v=.tuple #[.int .i64 h,.int .i64 er]) 16 (by kernel_rfl) (by kernel_rfl) (tf_S (fun w' h=>⟨tw_bk (HA4.out.still h).tail,HK4.out.below h⟩) kres_S) (tf_below kres_below) (Below.refl _ _) ?_
   simp only [zzF,zzG,zzH,zzI]
   repeat (first
    | (refine RV.m_held (by rfl) (by rfl) (fun K hK=>?_);go_big_quiet_step (fail);refine wpQuiet_nil ?_;refine hK.out _ ?_;clear hK K)
    | (refine RV.m_skip (by rfl) ?_;simp only [Act.put,zzA,zzB,zzC]))
   refine RV.m_call (by rfl) (by rfl) (fun w=>by go_simp;exact⟨rfl,rfl⟩) (⟨_,0,0,rfl⟩) (fun X wx hx=>?_) (fun v hv=>?_)
   ·have hx2:Below w4.heap.size w4 wx:=hx
    have hA3:=HA4.out.still hx2
    have hk3:=HK4.out.below hx2
    have hT2:TAt 0 R S sv fv wx:=tw_tr hA3.tail
    have ha:=attO_ok HO.out
    have hcl:=mkT_any hT2 ((HLd.out.below HB4.out).below hx2) HT.out.ok.fr (by have:=HT.out.ok.freel;have:=hD.sl;omega) (by have:=hD.sl;omega) ((2+o.k % 10:Nat):Int) o.s o.t (by have:=HO.out.s;omega) (by have:=HO.out.t;omega) (.slice (some ⟨w2.heap.size,0,none⟩) 2 2) (attO o) (own_belowM HOa.out hx2) (by omega) (fun a h=>by have:=ha.2 a h;omega)
    rw [hk] at hcl
    refine hcl.mono ?_
    intro e wy hy
    first
     | rw [show((2+0:Nat):Int)=((2+o.k % 10:Nat):Int) by rw [hk]] at hy
     | rw [show((2+1:Nat):Int)=((2+o.k % 10:Nat):Int) by rw [hk]] at hy
     | rw [show((2+2:Nat):Int)=((2+o.k % 10:Nat):Int) by rw [hk]] at hy
    obtain⟨v,rfl,hsh,hr⟩:=kres_of hA3 hk3 HT.out.ok.fr HT.out.ok.frnd hy
    exact⟨v,rfl,hsh,hr⟩
   obtain⟨hh,er,rfl⟩:=hv
   simp only [Act.put,zzA,zzB,zzC]
   repeat (first
    | (refine RV.m_held (by rfl) (by rfl) (fun K hK=>?_);go_big_quiet_step (fail);refine wpQuiet_nil ?_;refine hK.out _ ?_;clear hK K)
    | (refine RV.m_skip (by rfl) ?_;simp only [Act.put,zzA,zzB,zzC]))
   refine RV.m_nil ?_
   intro w5 hF
   obtain⟨W0,S',sv',fv',hh',er',he,hres,hA5,hK5⟩:=hF
   simp only [Value.tuple.injEq,List.toArray_inj,Array.mk.injEq,List.cons.injEq,Value.int.injEq,and_true,true_and] at he
   obtain⟨rfl,rfl⟩:=he
   have HA5:=Lib.hid hA5
   have HK5:=Lib.hid hK5
   have HRes:=Lib.hid hres
   clear y0 z4 z5 hne hA5 hK5 hres
   obtain⟨gm,capm,rfl⟩:=(tw_md HA5.out.tail).W.shape hHp
   go_upto_region 27 with fail
   haveI hne:Nonempty (InS (DoM g R Q w.heap.size (.slice hva X.length hvc) o)):=⟨⟨w5,tw_bk HA5.out.tail,HK5.out⟩⟩
   have y1:=fun(x:InS (DoM g R Q w.heap.size (.slice hva X.length hvc) o))=>x.h.bk.cell 1
   have z4:=fun(x:InS (DoM g R Q w.heap.size (.slice hva X.length hvc) o))=>x.h.bx.cell 4
   have z5:=fun(x:InS (DoM g R Q w.heap.size (.slice hva X.length hvc) o))=>x.h.bx.cell 5
   simp only [opC,zzD,zzE] at y1 z4 z5
   refine reg_g (DoM g R Q w.heap.size (.slice hva X.length hvc) o) (TF w5 (KMes B w0 l g R Q (.slice hva X.length hvc) Hs S' sv' fv' X w.heap.size o (.slice (some ⟨w2.heap.size+1,0,none⟩) 2 2))) (fun _ v=>∃en,v=.int .i64 en) 12 (by kernel_rfl) (by kernel_rfl) (tf_S (fun w' h=>⟨tw_bk (HA5.out.still h).tail,HK5.out.below h⟩) kmes_S) (tf_below kmes_below) (Below.refl _ _) ?_
   simp only [zzF,zzG,zzH,zzI]
   repeat (first
    | (refine RV.m_held (by rfl) (by rfl) (fun K hK=>?_);go_big_quiet_step (fail);refine wpQuiet_nil ?_;refine hK.out _ ?_;clear hK K)
    | (refine RV.m_skip (by rfl) ?_;simp only [Act.put,zzA,zzB,zzC]))
   refine RV.m_call (by rfl) (by rfl) (fun w=>by go_simp;exact⟨rfl,rfl⟩) (⟨_,0,rfl⟩) (fun X wx hx=>?_) (fun v hv=>?_)
   ·have hx2:Below w5.heap.size w5 wx:=hx
    have hA3:=HA5.out.still hx2
    have hk3:=HK5.out.below hx2
    have ha:=attO_ok HO.out
    have ho3:Own wx 92 2 (.slice (some ⟨w2.heap.size+1,0,none⟩) 2 2) (attO o).length (attrC (attO o)):=hA3.head
    have hcl:=mmake_any (tw_md hA3.tail) (by omega) ((2+o.k % 10:Nat):Int) (by omega) (by omega) o.s o.t (by have:=HO.out.s;omega) (by have:=HO.out.t;omega) (.slice (some ⟨w2.heap.size+1,0,none⟩) 2 2) (attO o) ho3 (by omega) (fun a h=>by have:=ha.2 a h;omega)
    rw [hk] at hcl
    refine hcl.mono ?_
    intro e wy hy
    first
     | rw [show((2+0:Nat):Int)=((2+o.k % 10:Nat):Int) by rw [hk]] at hy
     | rw [show((2+1:Nat):Int)=((2+o.k % 10:Nat):Int) by rw [hk]] at hy
     | rw [show((2+2:Nat):Int)=((2+o.k % 10:Nat):Int) by rw [hk]] at hy
    obtain⟨v,rfl,hsh,hr⟩:=kmes_of hA3 hk3 hy
    exact⟨v,rfl,hsh,hr⟩
   obtain⟨en,rfl⟩:=hv
   simp only [Act.put,zzA,zzB,zzC]
   repeat (first
    | (refine RV.m_held (by rfl) (by rfl) (fun K hK=>?_);go_big_quiet_step (fail);refine wpQuiet_nil ?_;refine hK.out _ ?_;clear hK K)
    | (refine RV.m_skip (by rfl) ?_;simp only [Act.put,zzA,zzB,zzC]))
   refine RV.m_nil ?_
   intro w7 hF
   obtain⟨X',gm',capm',en',he,hmm,hA7,hK7⟩:=hF
   obtain rfl:en=en':=by simpa using he
   clear he
   have HMm:=Lib.hid hmm
   clear hmm
   obtain⟨hee,hc⟩:=do_made (B:=B) (w0:=w0) (l:=l) (g:=g) (R:=R) (Q:=Q) HT.out hE hX hx HO.out (by omega) HMm.out HRes.out
   subst hee
   have HA7:=Lib.hid hA7.tail
   clear y1 z4 z5 hne hA7 hK7
   rcases hc with ⟨h0,rfl,hc⟩ | ⟨rfl,hh0,hc⟩
   case inl =>
    have HC:=Lib.hid hc
    clear hc
    have e0:(er == 0)=false:=by simpa using h0
    go_wp2_with fail
    go_ret2
    rw [← HHs.out] at HC
    exact HC.out _ _ _ _ _ HA7.out
   case inr =>
    have HC:=Lib.hid hc
    clear hc
    have e0:(hh == 0)=false:=by simpa using hh0
    have e1:(hh != 0)=true:=by simpa using hh0
    have g2:=(tw_bk HA7.out).cell 2
    simp only [zzD,zzE] at g2
    have hgl7:=(tw_bk HA7.out).lt
    have hgz7:=(tw_bk HA7.out).free
    go_wp2_with (at_builtin;go_loud (refine wpList_append_all etI [bk g [.pointer (some ⟨R,0,none⟩),.pointer (some ⟨Q,0,none⟩),.slice hva X.length hvc] 33] (l2:=[trO R S' sv' fv',mdO Q (.slice (some ⟨gm',0,none⟩) X'.length capm') X'] ++ l) (HA7.out.alloc _) (own_at (n:=1) (size:=1) (Blk.new w7 [.int .i64 hh] 3) rfl (by omega)) (by intro u hu;simp at hu;subst hu;rfl) (by have:=HHl.out;omega) (by omega) rfl _ _ rfl rfl rfl ?_);intro v8 w8 hA8;have b8:Blk w8 g [.pointer (some ⟨R,0,none⟩),.pointer (some ⟨Q,0,none⟩),.slice hva X.length hvc] 33:=hA8.P (bk g [.pointer (some ⟨R,0,none⟩),.pointer (some ⟨Q,0,none⟩),.slice hva X.length hvc] 33) (by simp);obtain⟨va8,vc8,rfl⟩:=own_shape (show Own w8 3 1 v8 (Hs.length+1) (hC Hs ++ [Value.int .i64 hh]) from hA8.P (sl 3 1 v8 (Hs.length+1) (hC Hs ++ [Value.int .i64 hh])) (List.mem_cons_of_mem _ List.mem_cons_self));have q8:=b8.cell 2;simp only [zzD,zzE] at q8;have hgl8:=b8.lt;have hgz8:=b8.free;have HA8:=Lib.hid hA8;clear hA8 b8)
    go_wp2_with fail
    go_ret2
    rw [← HHs.out] at HC
    exact HC.out _ _ _ _ _ (tw_push HA8.out)
end Go.Proofs.YtfelmdkeaacfeaaGreatDoor.W
end
