/- Texts joined: RdP LwR. -/
import Derived.Test.YtacdbnhnhdlmpaaGreatDoorFR8
import Derived.Deep.CutBlock
set_option maxRecDepth 100000
set_option maxHeartbeats 40000000
set_option linter.unusedVariables false
set_option linter.unusedSimpArgs false
section
namespace Go.Proofs.YtacdbnhnhdlmpaaGreatDoor.W
open Go.RowKit
theorem fewp_any (A:Option Addr)(n c:Nat)(w:World):Calls Tryz.prog 26 #[.slice A n c] w fun e w'=>e=.returned (.bool (decide (n≤25)))∧w'=w:=by
 go_enter Tryz.func26,Tryz.ntmps26
 go_wp2_with fail
 go_ret
 refine⟨?_,rfl⟩
 simp
 omega
section
variable {S : Tr} {K : Nat → List Nat} {d : Nat → Nat}
theorem gH_len (D:DcOk S K d)(h:Int):(gH S K d h).length≤100:=by
 unfold gH
 split
 ·rw [List.length_map];exact grp_len D _ _
 ·simp
theorem setX_len (D:DcOk S K d)(X:List FX)(h:Int)(on:Bool):(setX (gH S K d) (rdH S) X h on).length≤X.length+101:=by
 have h1:=touX_len X h on
 unfold setX
 split
 ·have h2:=touL_len (touX X h on) ((gH S K d h).filter (fun x=>x != h))
  have h3:=List.length_filter_le (fun x=>x != h) (gH S K d h)
  have h4:=gH_len D h
  omega
 ·omega
theorem setM_len (D:DcOk S K d)(M:List (Int×Bool))(h:Int)(on:Bool):(setM (gH S K d) (rdH S) M h on).length≤M.length+101:=by
 unfold setM
 have h3:=List.length_filter_le (fun x=>x != h) (gH S K d h)
 have h4:=gH_len D h
 rw [List.length_append,List.length_append,List.length_singleton]
 split
 ·rw [List.length_map];omega
 ·simp
structure MkOk (S:Tr) (K:Nat→List Nat) (d:Nat→Nat) (X:List FX) (M:List (Int×Bool)):Prop where
 eq:uX X=lastM M
 one:OneT (gH S K d) (rdH S) (uX X)
 nod:NoD X
theorem MkOk.start:MkOk S K d [] []:=⟨rfl,fun a b _ _ _ h=>(by cases h.1),fun x hx=>(by cases hx)⟩
theorem MkOk.set (D:DcOk S K d){X:List FX}{M:List (Int×Bool)}(h:MkOk S K d X M)(x:Int)(on:Bool):MkOk S K d (setX (gH S K d) (rdH S) X x on) (setM (gH S K d) (rdH S) M x on):=by
 have e:uX (setX (gH S K d) (rdH S) X x on)=setU (gH S K d) (rdH S) (uX X) x on:=funext fun y=>setX_u _ _ _ _ _ _
 refine⟨?_,?_,h.nod.setX x on⟩
 ·rw [e,h.eq]
  exact funext fun y=>(setM_last _ _ _ _ _ _).symm
 ·rw [e]
  exact h.one.set (gr_ok D) x on
end
def VMs:List Value→Value→Prop:=fun _ v=>∃a n c a' n' c',v=.agg #[.slice a n c,.slice a' n' c']
def FMs (B:Nat)(M:List (Int×Bool)):List Value→World→Prop
 | [v],w'=>∀x y,v=.agg #[x,y]→w'.ownsRow B 3 1 x M.length (mrN M)∧w'.ownsRow B 4 1 y M.length (mrB M)
 | _,_=>True
theorem fms_below {B:Nat}{M:List (Int×Bool)}(k:List Value)(w1 w2:World)(h:FMs B M k w1)(hb:Below w1.heap.size w1 w2):FMs B M k w2:=by
 match k,h with
 | [],_=>trivial
 | [v],h=>exact fun x y e=>⟨own_keepB (h x y e).1 hb,own_keepB (h x y e).2 hb⟩
 | _ :: _ :: _,_=>trivial
def rdL (Z R:Nat)(S:Tr)(sv fv va vb lv:Value)(L:List Nat)(M:List (Int×Bool)):List Ob:=[bk Z [va,vb] 65,sl 3 1 va M.length (mrN M),sl 4 1 vb M.length (mrB M),trO R S sv fv,sl 3 1 lv L.length (hdC S L)]
section
variable {B Q Z R : Nat} {S : Tr} {sv fv va vb lv fa : Value} {L : List Nat} {M : List (Int × Bool)} {X : List FX} {foc : Int} {w0 w : World}
theorem rd_tr:trO R S sv fv∈rdL Z R S sv fv va vb lv L M:=by simp [rdL]
theorem rd_mk (h:All B w0 (fsL Q fa foc X ++ rdL Z R S sv fv va vb lv L M) w):MkAt w va vb M :=
 ⟨h.P (sl 3 1 va M.length (mrN M)) (by simp [rdL]),h.P (sl 4 1 vb M.length (mrB M)) (by simp [rdL])⟩
theorem rd_bk (h:All B w0 (fsL Q fa foc X ++ rdL Z R S sv fv va vb lv L M) w):Blk w Z [va,vb] 65:=h.P (bk Z [va,vb] 65) (by simp [rdL])
theorem rd_row (h:All B w0 (fsL Q fa foc X ++ rdL Z R S sv fv va vb lv L M) w):Own w 3 1 lv L.length (hdC S L):=h.P (sl 3 1 lv L.length (hdC S L)) (by simp [rdL])
theorem rd_tree (h:All B w0 (fsL Q fa foc X ++ rdL Z R S sv fv va vb lv L M) w):TAt 0 R S sv fv w:=h.P (trO R S sv fv) (by simp [rdL])
theorem rd_put (h:All B w0 (fsL Q fa foc X ++ rdL Z R S sv fv va vb lv L M) w){w':World}(hb:Below w.heap.size w w'){M':List (Int×Bool)}{va' vb':Value}(h1:w'.ownsRow w.heap.size 3 1 va' M'.length (mrN M'))(h2:w'.ownsRow w.heap.size 4 1 vb' M'.length (mrB M')) :
  All B w0 (fsL Q fa foc X ++ rdL Z R S sv fv va' vb' lv L M') ((w'.setCell ⟨Z,0,none⟩ va').setCell ⟨Z,1,none⟩ vb'):=by
 have h3:=h.newL hb (L:=[sl 3 1 va' M'.length (mrN M'),sl 4 1 vb' M'.length (mrB M')]) (fun o ho=>by
  simp only [List.mem_cons,List.not_mem_nil,or_false] at ho
  rcases ho with rfl | rfl
  ·exact own_low h1 (Nat.zero_le _)
  ·exact own_low h2 (Nat.zero_le _)) (fun o ho=>by
  simp only [List.mem_cons,List.not_mem_nil,or_false] at ho
  rcases ho with rfl | rfl
  ·exact fun k hk=>(h1.lt k hk).1
  ·exact fun k hk=>(h2.lt k hk).1) (by
  simp only [List.pairwise_cons,List.mem_cons,List.not_mem_nil,or_false,List.Pairwise.nil,and_true,forall_eq,false_implies,implies_true]
  intro k q1 q2
  obtain⟨c1,e1⟩:=own_ty h1 q1
  obtain⟨c2,e2⟩:=own_ty h2 q2
  exact blk_ne e1 e2 (by decide) rfl)
 have h4:All B w0 ([sl 3 1 va' M'.length (mrN M'),sl 4 1 vb' M'.length (mrB M')] ++ (fsL Q fa foc X ++ [bk Z [va,vb] 65,trO R S sv fv,sl 3 1 lv L.length (hdC S L)])) w':=h3.sub (List.Sublist.append_left (List.Sublist.append_left (by
  unfold rdL
  exact((List.sublist_cons_self _ _).trans (List.sublist_cons_self _ _)).cons_cons _) _) _)
 have h5:All B w0 ((fsL Q fa foc X ++ [bk Z [va,vb] 65]) ++ ([sl 3 1 va' M'.length (mrN M'),sl 4 1 vb' M'.length (mrB M')] ++ [trO R S sv fv,sl 3 1 lv L.length (hdC S L)])) w':=by
  refine h4.perm ?_
  have:fsL Q fa foc X ++ [bk Z [va,vb] 65,trO R S sv fv,sl 3 1 lv L.length (hdC S L)]=(fsL Q fa foc X ++ [bk Z [va,vb] 65]) ++ [trO R S sv fv,sl 3 1 lv L.length (hdC S L)]:=by simp
  rw [this]
  exact List.perm_append_comm_assoc _ _ _
 have h6:All B w0 (fsL Q fa foc X ++ bk Z [va,vb] 65 :: [sl 3 1 va' M'.length (mrN M'),sl 4 1 vb' M'.length (mrB M'),trO R S sv fv,sl 3 1 lv L.length (hdC S L)]) w':=by simpa using h5
 have h7:=All.setBk (fsL Q fa foc X) h6 0 va'
 have h8:=All.setBk (fsL Q fa foc X) h7 1 vb'
 exact h8
end
end Go.Proofs.YtacdbnhnhdlmpaaGreatDoor.W
end
section
namespace Go.Proofs.YtacdbnhnhdlmpaaGreatDoor.W
open Go.RowKit
section
variable {B Q Z R : Nat} {S : Tr} {sv fv lv : Value} {L : List Nat} {w0 w : World}
theorem rd_start (h:All B w0 [bk Z [.slice none 0 0,.slice none 0 0] 65,bk Q [.slice none 0 0,.int .i64 0] 30,trO R S sv fv,sl 3 1 lv L.length (hdC S L)] w) :
  All B w0 (fsL Q (.slice none 0 0) 0 [] ++ rdL Z R S sv fv (.slice none 0 0) (.slice none 0 0) lv L []) w:=by
 have h1:=((h.nil 4 1).nil 3 1).nil 119 9
 have hp:∀(F n b Zb Qb:Ob) (r:List Ob),(F :: n :: b :: Zb :: Qb :: r).Perm (Qb :: F :: Zb :: n :: b :: r):=fun F n b Zb Qb r=>by
  have e1:(F :: n :: b :: Zb :: Qb :: r)=[F,n,b,Zb] ++ Qb :: r:=rfl
  rw [e1]
  refine List.perm_middle.trans ((List.Perm.cons _ ((?_:(n :: b :: Zb :: r).Perm (Zb :: n :: b :: r)).cons F)))
  exact List.perm_middle (l₁:=[n,b])
 exact h1.perm (hp _ _ _ _ _ _)
end
theorem radios_any (w:World)(hT:Laid w)(A1:Option Addr)(n1 c1:Nat)(f1:Nat→PtF)(h1:InPt w A1 n1 f1)(hf1:∀j,(f1 j).In)(A2:Option Addr)(n2 c2:Nat)(f2:Nat→MkF)(h2:InMk w A2 n2 f2)(hf2:∀j,(f2 j).at_≤255) :
  Calls Tryz.prog 5 #[.slice A1 n1 c1,.slice A2 n2 c2] w fun e w'=>e=.returned (.bool true)∧Below w.heap.size w w':=by
 have hL:∀wx,Below w.heap.size w wx→Laid wx:=fun wx hb=>hT.below hb
 have HL:=Lib.hid hL
 have HAw:=Lib.hid (fun wx (hb:Below w.heap.size w wx)=>awake_any wx (hT.below hb))
 have HP:=Lib.hid (fun wx (hb:Below w.heap.size w wx)=>h1.below hb)
 have HMi:=Lib.hid (fun wx (hb:Below w.heap.size w wx)=>h2.below hb)
 have HF1:=Lib.hid hf1
 have HF2:=Lib.hid hf2
 have HFw:=Lib.hid (fun wx=>fewp_any A1 n1 c1 wx)
 clear hT hL h1 h2 hf1 hf2
 by_cases hn1:n1≤25
 ·rw [decide_eq_true hn1] at HFw
  by_cases hn2:n2≤40
  ·have d2:decide (40 < n2)=false:=by simp;omega
   have d2':decide ((40:Int) < (n2:Int))=false:=by simp;omega
   go_enter Tryz.func5,Tryz.ntmps5
   go_wp2_with fail
   refine(HAw.out _ (Below.refl _ _)).mono ?_
   rintro e w1 ⟨rfl,hb1⟩
   go_wp2_with fail
   refine(HFw.out _).mono ?_
   rintro e w2 ⟨rfl,rfl⟩
   have HDo:=Lib.hid (document_any ((All.start w).still hb1) HL.out A1 n1 c1 f1 HP.out hn1 HF1.out)
   clear hb1 HFw HAw
   go_wp2_with fail
   refine HDo.out.mono ?_
   rintro e w3 ⟨R,S,sv,fv,K,d,L,lv,rfl,hA3,hD,hLl⟩
   have hA5:=rd_start ((hA3.newBkA w3.heap.size rfl [.slice none 0 0,.int .i64 0] 30).newBkA (w3.heap.size+1) (by simp) [.slice none 0 0,.slice none 0 0] 65)
   obtain⟨la,lc,rfl⟩:=own_shape (rd_row hA5)
   have HA5:=Lib.hid hA5
   have HD:=Lib.hid hD
   have HLl:=Lib.hid hLl
   clear hA3 hA5 hD hLl HDo
   by_cases hn0:n1=0
   ·obtain rfl:L=[]:=List.eq_nil_of_length_eq_zero (by rw [HLl.out];exact hn0)
    have HB5:=Lib.hid HA5.out.below
    clear HLl HD HA5 hn0
    simp only [List.length_nil]
    go_wp2_with fail
    go_loopw [41] (fun iv wr=>∃k:Nat,k≤n2∧iv=.int .i64 (k:Int)∧Below w.heap.size w wr) (fun iv _=>n2 - (intOf iv).toNat)
    case atStart=>exact⟨0,by omega,rfl,HB5.out⟩
    case round =>
     obtain⟨k,hk,rfl,hb⟩:=hrel
     have HB:=Lib.hid hb
     clear hb
     by_cases hkl:k < n2
     all_goals
      first | (have hkk:(k:Int) < (n2:Int):=(by omega)) | (obtain rfl:k=n2:=by omega)
      go_wp2_with fail
      go_loopw [101] (fun iv wr=>iv=.int .i64 0∧Below w.heap.size w wr) (fun _ _=>0)
      case atStart=>exact⟨rfl,HB.out⟩
      case round =>
       obtain⟨rfl,hb⟩:=hrel
       have HB2:=Lib.hid hb
       clear hb
       go_wp2_with fail
       go_ret
       exact⟨rfl,HB2.out⟩
   ·have hLp:0 < L.length:=by rw [HLl.out];omega
    have hLb:L.length≤25:=by rw [HLl.out];exact hn1
    have hL0:¬(L.length:Int)=0:=by omega
    have gL0:((L.length:Int) == 0)=false:=beq_eq_false_iff_ne.2 hL0
    have HEl:=Lib.hid HD.out.el
    have HDk:=Lib.hid HD.out.ok
    have HM0:=Lib.hid (MkOk.start (S:=S) (K:=K) (d:=d))
    clear HLl hn0 HD
    go_wp2_with fail
    generalize w3.heap.size+1=Z at *
    generalize w3.heap.size=Q at *
    go_loopw [41] (fun iv wr=>∃(k:Nat) (X:List FX) (fa va vb:Value) (M:List (Int×Bool)),k≤n2∧iv=.int .i64 (k:Int)∧MkOk S K d X M∧X.length≤101*k∧M.length≤101*k∧All w.heap.size w (fsL Q fa 0 X ++ rdL Z R S sv fv va vb (.slice la L.length lc) L M) wr) (fun iv _=>n2 - (intOf iv).toNat)
    case atStart=>exact⟨0,[],_,_,_,[],Nat.zero_le _,rfl,HM0.out,Nat.zero_le _,Nat.zero_le _,HA5.out⟩
    case round =>
     obtain⟨k,X,fa,va,vb,M,hk2,rfl,hmk,hXl,hMl,hA⟩:=hrel
     have HA:=Lib.hid hA
     have HMk:=Lib.hid hmk
     clear hmk
     by_cases hkl:k < n2
     ·obtain⟨na,nc,rfl⟩:=own_shapeB (rd_mk hA).nodes
      obtain⟨oa,oc,rfl⟩:=own_shapeB (rd_mk hA).on
      obtain⟨gm,off,rfl,hgm,hc⟩:=HMi.out _ hA.below (by omega)
      obtain⟨q0,q1⟩:=hc k hkl
      have HMi2:=Lib.hid (fun wx (hb:Below w.heap.size w wx)=>(show wx.cell? ⟨gm,off+k*2+1,none⟩=some (.bool (f2 k).on) from by
       obtain⟨b,off',e,_,hc'⟩:=HMi.out wx hb (by omega)
       cases e
       exact(hc' k hkl).2))
      generalize hma:(f2 k).at_=ma at *
      have hma2:=HF2.out k
      rw [hma] at hma2
      generalize (f2 k).on=on at *
      obtain⟨j,hj⟩:∃j,ma % L.length=j:=⟨_,rfl⟩
      have hjL:j < L.length:=by rw [← hj];exact Nat.mod_lt _ hLp
      have hmj:Int.tmod (ma:Int) (L.length:Int)=(j:Int):=by rw [← hj];exact tmod_nat ma L.length
      have hjL2:(j:Int) < (L.length:Int):=by omega
      obtain⟨q,hq⟩:∃q,L[j]? = some q:=⟨_,List.getElem?_eq_getElem hjL⟩
      obtain⟨nq,hnq,_⟩:=HEl.out q (List.mem_of_getElem? hq)
      obtain⟨vg,e,_,hvc,ck⟩:=hdC_get (B:=0) (rd_row hA) hq
      subst e
      have HSk:=Lib.hid (skind_any (rd_tree hA) HDk.out.lk q nq hnq (HDk.out.al q nq hnq) (HDk.out.nm q nq hnq))
      have HNq:=Lib.hid hnq
      clear hc hma hj hq hnq hA hgm
      go_wp2_with fail
      refine HSk.out.mono ?_
      rintro e w7 ⟨rfl,hb7⟩
      have hA7:=HA.out.still hb7
      have q1:=HMi2.out w7 hA7.below
      have HA7:=Lib.hid hA7
      clear hA7 hb7 HSk q0 ck HA
      by_cases hck:isCk nq=true
      ·have HSc:=Lib.hid (setChecked_yes HDk.out HA7.out rd_tr q nq HNq.out hck on (by omega))
       have hkk:kindN nq=3∨kindN nq=4:=by unfold isCk at hck;simpa using hck
       generalize kindN nq=kx at *
       clear hck
       go_wp2_with fail
       refine HSc.out.mono ?_
       rintro e w8 ⟨rfl,fa8,hA8⟩
       have HA8:=Lib.hid hA8
       have q1:=HMi2.out w8 hA8.below
       have kz:=rd_bk hA8
       have y0:=fun(x:InS (StB w8))=>(kz.below x.h).cell 0
       have y1:=fun(x:InS (StB w8))=>(kz.below x.h).cell 1
       have ym:=fun(x:InS (StB w8))=>cell_keep x.h q1
       simp only [zzD,zzE] at y0 y1
       have hne:=stb_ne w8
       have HMs:=Lib.hid (fun wx (hb:Below w8.heap.size w8 wx)=>mset_any HDk.out (rd_tree (hA8.still hb)) (rd_mk (hA8.still hb)) (by omega) q nq HNq.out on)
       have hX8:=setX_len HDk.out X (S.hd q) on
       have hM8:=setM_len HDk.out M (S.hd q) on
       have HMk8:=Lib.hid (HMk.out.set HDk.out (S.hd q) on)
       generalize setX (gH S K d) (rdH S) X (S.hd q) on=X8 at *
       generalize setM (gH S K d) (rdH S) M (S.hd q) on=M8 at *
       clear hA8 kz HSc HA7 q1
       go_upto_region 13 with fail
       go_cut [86] (fun cv wx=>cv=.bool false∧wx=w8)
       case first =>
        clear y0 y1 ym hne
        rcases hkk with rfl | rfl
        all_goals
         go_wp2_with fail
         go_meet
         exact⟨rfl,rfl⟩
       case rest =>
       obtain⟨rfl,hw⟩:=hcut
       rw [hw]
       clear hw hkk
       go_upto_region 16 with fail
       refine reg_f (FMs w8.heap.size M8) VMs 9 (by kernel_rfl) (by kernel_rfl) fms_below trivial ?_
       simp only [zzF,zzG,zzH,zzI]
       repeat (first
        | (refine RV.m_held (by rfl) (by rfl) (fun K hK=>?_);go_big_quiet_step (fail);refine wpQuiet_nil ?_;refine hK.out _ ?_;clear hK K)
        | (refine RV.m_skip (by rfl) ?_;simp only [Act.put,zzA,zzB,zzC]))
       refine RV.m_call (by rfl) (by rfl) (fun w=>by go_simp;exact⟨rfl,rfl⟩) (⟨_,none,0,0,none,0,0,rfl⟩) (fun X wx hx=>?_) (fun v hv=>?_)
       ·refine(HMs.out _ hx.1).mono ?_
        rintro e wy ⟨x,y,rfl,r1,r2,hb⟩
        obtain⟨a1,b1,rfl⟩:=own_shapeB r1
        obtain⟨a2,b2,rfl⟩:=own_shapeB r2
        refine⟨_,rfl,⟨_,_,_,_,_,_,rfl⟩,bthen hx.1 hb,fun x y e=>?_⟩
        cases e
        exact⟨own_low r1 hx.1.size,own_low r2 hx.1.size⟩
       obtain⟨a9,m9,b9,a9',m9',b9',rfl⟩:=hv
       simp only [Act.put,zzA,zzB,zzC]
       repeat (first
        | (refine RV.m_held (by rfl) (by rfl) (fun K hK=>?_);go_big_quiet_step (fail);refine wpQuiet_nil ?_;refine hK.out _ ?_;clear hK K)
        | (refine RV.m_skip (by rfl) ?_;simp only [Act.put,zzA,zzB,zzC]))
       refine RV.m_nil ?_
       intro w9 hb9 hF9
       have hb9:Below w8.heap.size w8 w9:=hb9
       obtain⟨r1,r2⟩:=hF9 _ _ rfl
       have hA9:=rd_put HA8.out hb9 r1 r2
       have HA9:=Lib.hid hA9
       have kz:=rd_bk (HA8.out.still hb9)
       have z0:=kz.cell 0
       have z1:=kz.cell 1
       have g0:=kz.free 0
       have g1:=kz.free 1
       simp only [zzD,zzE] at z0 z1
       clear hA9 kz r1 r2 hF9 hb9 y0 y1 ym hne HMs
       go_wp2_with fail
       go_roundw
       case rel=>exact⟨k+1,X8,fa8,_,_,M8,by omega,by go_num,HMk8.out,by omega,by omega,HA9.out⟩
       case measure=>simp [intOf];omega
      ·rw [Bool.not_eq_true] at hck
       have HSc:=Lib.hid (setChecked_no HDk.out HA7.out rd_tr q nq HNq.out hck on)
       have hkk:¬kindN nq=3∧¬kindN nq=4:=by unfold isCk at hck;simpa using hck
       generalize kindN nq=kx at *
       have e3:((kx:Int) == 3)=false:=by simp;omega
       have e4:((kx:Int) == 4)=false:=by simp;omega
       clear hck hkk
       go_wp2_with fail
       refine HSc.out.mono ?_
       rintro e w8 ⟨rfl,hb8⟩
       have HA8:=Lib.hid (HA7.out.still hb8)
       clear hb8 HSc q1
       go_wp2_with fail
       go_roundw
       case rel=>exact⟨k+1,X,fa,_,_,M,by omega,by go_num,HMk.out,by omega,by omega,HA8.out⟩
       case measure=>simp [intOf];omega
     ·obtain rfl:k=n2:=by omega
      obtain⟨na,nc,rfl⟩:=own_shapeB (rd_mk hA).nodes
      obtain⟨oa,oc,rfl⟩:=own_shapeB (rd_mk hA).on
      have HTr:=Lib.hid (fun wx (hb:Below wr.heap.size wr wx)=>rd_tree (HA.out.still hb))
      have hu:=HMk.out.eq
      have HOne:=Lib.hid HMk.out.one
      have HKz:=Lib.hid (rd_bk hA)
      have HRow:=Lib.hid (rd_row hA)
      have HBw:=Lib.hid hA.below
      have HCkd:=Lib.hid (fun(x:Nat) (nx:Nd) (hx:S.at x=some nx) wx (hb:Below wr.heap.size wr wx)=>checked_any HDk.out (HA.out.still hb) rd_tr x nx hx (by omega))
      have HMcd:=Lib.hid (fun(x:Nat) (nx:Nd) (hx:S.at x=some nx) wx (hb:Below wr.heap.size wr wx)=>mchecked_any HDk.out (rd_tree (HA.out.still hb)) (rd_mk (HA.out.still hb)) (by omega) x nx hx)
      rw [← hu] at HMcd
      generalize uX X=u at *
      generalize wr=w2 at *
      clear hA hu HMk HA HA5 HM0 hXl hMl
      go_wp2_with fail
      go_loopw [101] (fun iv wx=>∃t:Nat,t≤L.length∧iv=.int .i64 (t:Int)∧Below w2.heap.size w2 wx) (fun iv _=>L.length - (intOf iv).toNat)
      case atStart=>exact⟨0,Nat.zero_le _,rfl,Below.refl _ _⟩
      case round =>
       obtain⟨t,ht,rfl,hbt⟩:=hrel
       have HBt:=Lib.hid hbt
       clear hbt
       by_cases htl:t < L.length
       ·obtain⟨q,hq⟩:∃q,L[t]? = some q:=⟨_,List.getElem?_eq_getElem htl⟩
        obtain⟨nq,hnq,_⟩:=HEl.out q (List.mem_of_getElem? hq)
        obtain⟨vg,e,_,hvc,ck⟩:=hdC_get (own_belowM HRow.out HBt.out) hq
        subst e
        have HKi:=Lib.hid (fun wx (hb:Below wr.heap.size wr wx)=>kind_any (HTr.out wx (bthen HBt.out hb)) HDk.out.lk q nq hnq (HDk.out.al q nq hnq))
        have HSk:=Lib.hid (fun wx (hb:Below wr.heap.size wr wx)=>skind_any (HTr.out wx (bthen HBt.out hb)) HDk.out.lk q nq hnq (HDk.out.al q nq hnq) (HDk.out.nm q nq hnq))
        have HOw:=Lib.hid (fun wx (hb:Below wr.heap.size wr wx)=>owner_any (HTr.out wx (bthen HBt.out hb)) HDk.out.lk HDk.out.al HDk.out.nm q nq hnq)
        have HSo:=Lib.hid (fun wx (hb:Below wr.heap.size wr wx)=>sowner_any (HTr.out wx (bthen HBt.out hb)) HDk.out.lk HDk.out.al HDk.out.nm q nq hnq)
        have HCk:=Lib.hid (fun wx (hb:Below wr.heap.size wr wx)=>HCkd.out q nq hnq wx (bthen HBt.out hb))
        have HMc:=Lib.hid (fun wx (hb:Below wr.heap.size wr wx)=>HMcd.out q nq hnq wx (bthen HBt.out hb))
        have HGr:=Lib.hid (fun wx (hb:Below wr.heap.size wr wx)=>sgroup_any HDk.out (HTr.out wx (bthen HBt.out hb)) q nq hnq)
        have hgl:=grp_len HDk.out q nq
        have HGl:=Lib.hid (fun x (hx:x∈grp S K d q nq) (h4:kindN nq=4)=>grp_mem HDk.out hnq h4 hx)
        have HAny:=Lib.hid (fun x (hx:x∈grp S K d q nq) (h4:kindN nq=4) (hc:chkd (gH S K d) (rdH S) (atH S) u (S.hd q)=true) (hcx:chkd (gH S K d) (rdH S) (atH S) u (S.hd x)=true)=>(show S.hd x=S.hd q from by
         refine Classical.byContradiction fun hne=>?_
         have:=chkd_one (gr_ok HDk.out) HOne.out (a:=S.hd q) (b:=S.hd x) (by rw [rdH_hd HDk.out hnq,h4];rfl) (by rw [gH_hd HDk.out hnq];exact List.mem_map_of_mem hx) (fun e=>hne e.symm) hc
         rw [hcx] at this
         cases this))
        generalize hO S (ownI S d q)=ow at *
        generalize hcv:chkd (gH S K d) (rdH S) (atH S) u (S.hd q)=cv at *
        have hisk:isCk nq=(kindN nq == 3 || kindN nq == 4):=rfl
        rw [hisk] at HCk
        generalize kindN nq=kx at *
        generalize grp S K d q nq=gl at *
        have gkx:((kx:Int) != (kx:Int))=false:=by simp
        have gow:(ow != ow)=false:=by simp
        clear hq hcv hisk
        go_wp2_with fail
        refine(HKi.out _ (Below.refl _ _)).mono ?_
        rintro e w5 ⟨rfl,hb5⟩
        have Hb5:=Lib.hid hb5
        have ck5:=cell_keep hb5 ck
        have yk:=fun(x:InS (StB w5))=>cell_keep x.h ck5
        have hne:=stb_ne w5
        clear hb5
        go_upto_region 22 with fail
        refine reg_f (fun _ _=>True) (fun k v=>match k with | []=>v=.int .i64 (kx:Int) | _=>v=.int .i64 ow) 23 (by kernel_rfl) (by kernel_rfl) (fun _ _ _ _ _=>trivial) trivial ?_
        simp only [zzF,zzG,zzH,zzI]
        repeat (first
         | (refine RV.m_held (by rfl) (by rfl) (fun K hK=>?_);go_big_quiet_step (fail);refine wpQuiet_nil ?_;refine hK.out _ ?_;clear hK K)
         | (refine RV.m_skip (by rfl) ?_;simp only [Act.put,zzA,zzB,zzC]))
        refine RV.m_call (by rfl) (by rfl) (fun w=>by go_simp;exact⟨rfl,rfl⟩) (⟨_,rfl⟩) (fun X wx hx=>?_) (fun v hv=>?_)
        ·refine(HSk.out _ (bthen Hb5.out hx.1)).mono ?_
         rintro e wy ⟨rfl,hb⟩
         exact⟨_,rfl,rfl,bthen hx.1 hb,trivial⟩
        obtain rfl:v=.int .i64 (kx:Int):=hv
        simp only [Act.put,zzA,zzB,zzC]
        repeat (first
         | (refine RV.m_held (by rfl) (by rfl) (fun K hK=>?_);go_big_quiet_step (fail);refine wpQuiet_nil ?_;refine hK.out _ ?_;clear hK K)
         | (refine RV.m_skip (by rfl) ?_;simp only [Act.put,zzA,zzB,zzC]))
        refine RV.m_call (by rfl) (by rfl) (fun w=>by go_simp;exact⟨rfl,rfl⟩) (⟨_,rfl⟩) (fun X wx hx=>?_) (fun v hv=>?_)
        ·refine(HOw.out _ (bthen Hb5.out hx.1)).mono ?_
         rintro e wy ⟨rfl,hb⟩
         exact⟨_,rfl,rfl,bthen hx.1 hb,trivial⟩
        obtain rfl:v=.int .i64 ow:=hv
        simp only [Act.put,zzA,zzB,zzC]
        repeat (first
         | (refine RV.m_held (by rfl) (by rfl) (fun K hK=>?_);go_big_quiet_step (fail);refine wpQuiet_nil ?_;refine hK.out _ ?_;clear hK K)
         | (refine RV.m_skip (by rfl) ?_;simp only [Act.put,zzA,zzB,zzC]))
        refine RV.m_call (by rfl) (by rfl) (fun w=>by go_simp;exact⟨rfl,rfl⟩) (⟨_,rfl⟩) (fun X wx hx=>?_) (fun v hv=>?_)
        ·refine(HSo.out _ (bthen Hb5.out hx.1)).mono ?_
         rintro e wy ⟨rfl,hb⟩
         exact⟨_,rfl,rfl,bthen hx.1 hb,trivial⟩
        obtain rfl:v=.int .i64 ow:=hv
        simp only [Act.put,zzA,zzB,zzC]
        repeat (first
         | (refine RV.m_held (by rfl) (by rfl) (fun K hK=>?_);go_big_quiet_step (fail);refine wpQuiet_nil ?_;refine hK.out _ ?_;clear hK K)
         | (refine RV.m_skip (by rfl) ?_;simp only [Act.put,zzA,zzB,zzC]))
        refine RV.m_nil ?_
        intro w6 hb6 _
        have Hb6:=Lib.hid (bthen Hb5.out (show Below w5.heap.size w5 w6 from hb6))
        have ck6:=cell_keep Hb6.out ck
        clear hb6 yk hne ck5 HSk HOw HSo HKi
        go_wp2_with fail
        refine(HCk.out _ Hb6.out).mono ?_
        rintro e w7 ⟨rfl,hb7⟩
        have Hb7:=Lib.hid (bthen Hb6.out hb7)
        have ck7:=cell_keep Hb7.out ck
        clear hb7 ck6 HCk
        by_cases h34:kx=3∨kx=4
        ·have eb:(kx == 3 || kx == 4)=true:=by simpa using h34
         rw [eb,if_pos rfl,if_pos rfl]
         clear eb
         rcases h34 with rfl | rfl
         ·have y0:=fun(x:InS (StB w7))=>(HKz.out.below (bthen (bthen HBt.out Hb7.out) x.h)).cell 0
          have y1:=fun(x:InS (StB w7))=>(HKz.out.below (bthen (bthen HBt.out Hb7.out) x.h)).cell 1
          have yk:=fun(x:InS (StB w7))=>cell_keep x.h ck7
          simp only [zzD,zzE] at y0 y1
          have hne:=stb_ne w7
          have gcv:(cv != cv)=false:=by simp
          go_upto_region 28 with fail
          refine reg_f (fun _ _=>True) (fun _ v=>v=.bool cv) 13 (by kernel_rfl) (by kernel_rfl) (fun _ _ _ _ _=>trivial) trivial ?_
          simp only [zzF,zzG,zzH,zzI]
          repeat (first
           | (refine RV.m_held (by rfl) (by rfl) (fun K hK=>?_);go_big_quiet_step (fail);refine wpQuiet_nil ?_;refine hK.out _ ?_;clear hK K)
           | (refine RV.m_skip (by rfl) ?_;simp only [Act.put,zzA,zzB,zzC]))
          refine RV.m_call (by rfl) (by rfl) (fun w=>by go_simp;exact⟨rfl,rfl⟩) (⟨_,rfl⟩) (fun X wx hx=>?_) (fun v hv=>?_)
          ·refine(HMc.out _ (bthen Hb7.out hx.1)).mono ?_
           rintro e wy ⟨rfl,hb⟩
           exact⟨_,rfl,rfl,bthen hx.1 hb,trivial⟩
          obtain rfl:v=.bool cv:=hv
          simp only [Act.put,zzA,zzB,zzC]
          repeat (first
           | (refine RV.m_held (by rfl) (by rfl) (fun K hK=>?_);go_big_quiet_step (fail);refine wpQuiet_nil ?_;refine hK.out _ ?_;clear hK K)
           | (refine RV.m_skip (by rfl) ?_;simp only [Act.put,zzA,zzB,zzC]))
          refine RV.m_nil ?_
          intro w8 hb8 _
          have Hb8:=Lib.hid (bthen Hb7.out (show Below w7.heap.size w7 w8 from hb8))
          have ck8:=cell_keep Hb8.out ck
          clear y0 y1 yk hne hb8 HMc ck7
          go_wp2_with fail
          go_roundw
          case rel=>exact⟨t+1,by omega,by go_num,bthen HBt.out Hb8.out⟩
          case measure=>simp [intOf];omega
         ·have y0:=fun(x:InS (StB w7))=>(HKz.out.below (bthen (bthen HBt.out Hb7.out) x.h)).cell 0
          have y1:=fun(x:InS (StB w7))=>(HKz.out.below (bthen (bthen HBt.out Hb7.out) x.h)).cell 1
          have yk:=fun(x:InS (StB w7))=>cell_keep x.h ck7
          simp only [zzD,zzE] at y0 y1
          have hne:=stb_ne w7
          have gcv:(cv != cv)=false:=by simp
          go_upto_region 28 with fail
          refine reg_f (fun _ _=>True) (fun _ v=>v=.bool cv) 13 (by kernel_rfl) (by kernel_rfl) (fun _ _ _ _ _=>trivial) trivial ?_
          simp only [zzF,zzG,zzH,zzI]
          repeat (first
           | (refine RV.m_held (by rfl) (by rfl) (fun K hK=>?_);go_big_quiet_step (fail);refine wpQuiet_nil ?_;refine hK.out _ ?_;clear hK K)
           | (refine RV.m_skip (by rfl) ?_;simp only [Act.put,zzA,zzB,zzC]))
          refine RV.m_call (by rfl) (by rfl) (fun w=>by go_simp;exact⟨rfl,rfl⟩) (⟨_,rfl⟩) (fun X wx hx=>?_) (fun v hv=>?_)
          ·refine(HMc.out _ (bthen Hb7.out hx.1)).mono ?_
           rintro e wy ⟨rfl,hb⟩
           exact⟨_,rfl,rfl,bthen hx.1 hb,trivial⟩
          obtain rfl:v=.bool cv:=hv
          simp only [Act.put,zzA,zzB,zzC]
          repeat (first
           | (refine RV.m_held (by rfl) (by rfl) (fun K hK=>?_);go_big_quiet_step (fail);refine wpQuiet_nil ?_;refine hK.out _ ?_;clear hK K)
           | (refine RV.m_skip (by rfl) ?_;simp only [Act.put,zzA,zzB,zzC]))
          refine RV.m_nil ?_
          intro w8 hb8 _
          have Hb8:=Lib.hid (bthen Hb7.out (show Below w7.heap.size w7 w8 from hb8))
          have ck8:=cell_keep Hb8.out ck
          clear y0 y1 yk hne hb8 HMc ck7
          cases cv with
          | false =>
           go_wp2_with fail
           go_roundw
           case rel=>exact⟨t+1,by omega,by go_num,bthen HBt.out Hb8.out⟩
           case measure=>simp [intOf];omega
          | true =>
           have HGr8:=Lib.hid (HGr.out _ Hb8.out)
           have HAny4:=Lib.hid (fun x hx=>HAny.out x hx (by trivial) (by trivial))
           have HGl4:=Lib.hid (fun x hx=>HGl.out x hx (by trivial))
           clear HGr HAny HGl
           go_wp2_with fail
           refine HGr8.out.mono ?_
           rintro e w9 ⟨gv,rfl,hgv,hb9⟩
           obtain⟨ga,gc,rfl⟩:=own_shapeB hgv
           have HGv:=Lib.hid hgv
           have Hb9:=Lib.hid (bthen Hb8.out hb9)
           have ck9:=cell_keep Hb9.out ck
           clear hgv hb9 HGr8 ck8
           go_wp2_with fail
           go_loopw [180] (fun iv wx=>∃j:Nat,j≤gl.length∧iv=.int .i64 (j:Int)∧Below w9.heap.size w9 wx) (fun iv _=>gl.length - (intOf iv).toNat)
           case atStart=>exact⟨0,Nat.zero_le _,rfl,Below.refl _ _⟩
           case round =>
            obtain⟨j,hjl,rfl,hbj⟩:=hrel
            rename_i wq
            have HBj:=Lib.hid hbj
            clear hbj
            by_cases hjg:j < gl.length
            ·obtain⟨x,hx⟩:∃x,gl[j]? = some x:=⟨_,List.getElem?_eq_getElem hjg⟩
             obtain⟨nx,hnx,hx4,_⟩:=HGl4.out x (List.mem_of_getElem? hx)
             obtain⟨gg,e,_,hgc,cg⟩:=hdC_get (own_keepB HGv.out HBj.out) hx
             subst e
             have ckj:=cell_keep HBj.out ck9
             have hbw:=bthen HBt.out (bthen Hb9.out HBj.out)
             have HCx:=Lib.hid (HCkd.out x nx hnx _ hbw)
             have HAx:=Lib.hid (HAny4.out x (List.mem_of_getElem? hx))
             rw [show isCk nx=true from by unfold isCk;rw [hx4];rfl,if_pos rfl,if_pos rfl] at HCx
             generalize chkd (gH S K d) (rdH S) (atH S) u (S.hd x)=cx at *
             generalize S.hd x=hx' at *
             generalize S.hd q=hq' at *
             clear hx hnx hx4 hbw
             go_wp2_with fail
             refine HCx.out.mono ?_
             rintro e w10 ⟨rfl,hb10⟩
             have cgx:=cell_keep hb10 cg
             have ckx:=cell_keep hb10 ckj
             have HB10:=Lib.hid (bthen HBj.out hb10)
             have yg:=fun(x:InS (StB w10))=>cell_keep x.h cgx
             have yq:=fun(x:InS (StB w10))=>cell_keep x.h ckx
             have hne:=stb_ne w10
             clear hb10 cg ckj HCx
             cases cx with
             | false =>
              go_upto_region 36 with fail
              refine reg_f (fun _ _=>True) (fun _ _=>True) 12 (by kernel_rfl) (by kernel_rfl) (fun _ _ _ _ _=>trivial) trivial ?_
              simp only [zzF,zzG,zzH,zzI]
              repeat (first
               | (refine RV.m_held (by rfl) (by rfl) (fun K hK=>?_);go_big_quiet_step (fail);refine wpQuiet_nil ?_;refine hK.out _ ?_;clear hK K)
               | (refine RV.m_skip (by rfl) ?_;simp only [Act.put,zzA,zzB,zzC]))
              refine RV.m_nil ?_
              intro w11 hb11 _
              have HB11:=Lib.hid (bthen HB10.out (show Below w10.heap.size w10 w11 from hb11))
              clear yg yq hne hb11 HAx
              go_wp2_with fail
              go_roundw
              case rel=>exact⟨j+1,by omega,by go_num,HB11.out⟩
              case measure=>simp [intOf];omega
             | true =>
              have gxe:(hx' != hq')=false:=by rw [HAx.out rfl];simp
              go_upto_region 36 with fail
              refine reg_f (fun _ _=>True) (fun _ _=>True) 12 (by kernel_rfl) (by kernel_rfl) (fun _ _ _ _ _=>trivial) trivial ?_
              simp only [zzF,zzG,zzH,zzI]
              repeat (first
               | (refine RV.m_held (by rfl) (by rfl) (fun K hK=>?_);go_big_quiet_step (fail);refine wpQuiet_nil ?_;refine hK.out _ ?_;clear hK K)
               | (refine RV.m_skip (by rfl) ?_;simp only [Act.put,zzA,zzB,zzC]))
              refine RV.m_nil ?_
              intro w11 hb11 _
              have HB11:=Lib.hid (bthen HB10.out (show Below w10.heap.size w10 w11 from hb11))
              clear yg yq hne hb11 HAx
              go_wp2_with fail
              go_roundw
              case rel=>exact⟨j+1,by omega,by go_num,HB11.out⟩
              case measure=>simp [intOf];omega
            ·obtain rfl:j=gl.length:=by omega
             have HBq:=Lib.hid (bthen Hb9.out HBj.out)
             go_wp2_with fail
             go_roundw
             case rel=>exact⟨t+1,by omega,by go_num,bthen HBt.out HBq.out⟩
             case measure=>simp [intOf];omega
        ·have eb:(kx == 3 || kx == 4)=false:=by simp;omega
         rw [eb,if_neg (by simp),if_neg (by simp)]
         have e3:((kx:Int) != 3)=true:=by simp;omega
         have e4:((kx:Int) != 4)=true:=by simp;omega
         clear eb h34
         go_wp2_with fail
         go_roundw
         case rel=>exact⟨t+1,by omega,by go_num,bthen HBt.out Hb7.out⟩
         case measure=>simp [intOf];omega
       ·obtain rfl:t=L.length:=by omega
        go_wp2_with fail
        go_ret
        exact⟨rfl,bthen HBw.out HBt.out⟩
  ·have d2:decide (40 < n2)=true:=by simp;omega
   have d2':decide ((40:Int) < (n2:Int))=true:=by simp;omega
   go_enter Tryz.func5,Tryz.ntmps5
   go_wp2_with fail
   refine(HAw.out _ (Below.refl _ _)).mono ?_
   rintro e w1 ⟨rfl,hb1⟩
   go_wp2_with fail
   refine(HFw.out _).mono ?_
   rintro e w2 ⟨rfl,rfl⟩
   go_wp2_with fail
   refine(HAw.out _ hb1).mono ?_
   rintro e w3 ⟨rfl,hb3⟩
   go_wp2_with fail
   go_ret
   exact⟨rfl,bthen hb1 hb3⟩
 ·rw [decide_eq_false hn1] at HFw
  go_enter Tryz.func5,Tryz.ntmps5
  go_wp2_with fail
  refine(HAw.out _ (Below.refl _ _)).mono ?_
  rintro e w1 ⟨rfl,hb1⟩
  go_wp2_with fail
  refine(HFw.out _).mono ?_
  rintro e w2 ⟨rfl,rfl⟩
  go_wp2_with fail
  refine(HAw.out _ hb1).mono ?_
  rintro e w3 ⟨rfl,hb3⟩
  go_wp2_with fail
  go_ret
  exact⟨rfl,bthen hb1 hb3⟩
end Go.Proofs.YtacdbnhnhdlmpaaGreatDoor.W
end
