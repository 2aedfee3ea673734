/- Texts joined: LwS LaidW OpA. -/
import Derived.Test.YtfelmdkeaacfeaaGreatDoorTS2
import Derived.Test.YtfelmdkeaacfeaaGreatDoorCards
import Derived.Test.YtfelmdkeaacfeaaGreatDoorTie
import Derived.Shelf.Vars
import Derived.Lib.LaidU8T
import Derived.Shelf.Unicode.ValidAny
import Derived.Lib.LaidIn
import Derived.Deep.DeepHandedRow
import Derived.Deep.DeepWitnessRowRef
import Derived.SizedLaws
set_option maxRecDepth 100000
set_option maxHeartbeats 40000000
set_option linter.unusedVariables false
set_option linter.unusedSimpArgs false
section
namespace Go.Proofs.YtfelmdkeaacfeaaGreatDoor.W
open Go.RowKit
theorem all2_map {g:Nat→Nat→Bool}{a b:Nat→Nat}:∀{l:List Nat},(∀k∈l,g (a k) (b k)=true)→all2 g (l.map a) (l.map b)=true
 | [],_=>rfl
 | k :: l,h=>by
  show(g (a k) (b k) && all2 g (l.map a) (l.map b))=true
  rw [h k (by simp),all2_map (fun q hq=>h q (by simp [hq]))];rfl
theorem same_tw {E E2:Nat→Prop}{c x c2 x2:Nat}{S S2:Tr}{K K2:Nat→List Nat}{d d2:Nat→Nat}{M:List MN}{σ σ2:Nat→Nat}(T:TwS True E c x S K d M σ)(T2:TwS True E2 c2 x2 S2 K2 d2 M σ2) :
  ∀(f i:Nat) (m:MN),lv M i=some m→sameB S S2 K K2 f (σ i) (σ2 i)=true:=by
 have hd:∀i m,lv M i=some m→∃n n2,S.at (σ i)=some n∧S2.at (σ2 i)=some n2∧sameN n n2=true:=fun i m hi=>by
  obtain⟨n,hn,a1,a2,a3,a4⟩:=T.tw.node i m hi
  obtain⟨n2,hn2,b1,b2,b3,b4⟩:=T2.tw.node i m hi
  refine⟨n,n2,hn,hn2,?_⟩
  unfold sameN
  rw [a1,b1,a2,b2,a3,b3,a4 trivial,b4 trivial];simp
 intro f
 induction f with
 | zero =>
  intro i m hi
  obtain⟨n,n2,h1,h2,h3⟩:=hd i m hi
  unfold sameB
  rw [h1,h2,T.tw.kids i m hi,T2.tw.kids i m hi,all2_map (fun _ _=>rfl),Bool.and_true]
  exact h3
 | succ f ih =>
  intro i m hi
  obtain⟨n,n2,h1,h2,h3⟩:=hd i m hi
  unfold sameB
  rw [h1,h2,T.tw.kids i m hi,T2.tw.kids i m hi,all2_map (fun k hk=>by
   obtain⟨mk,h1,_⟩:=T.tw.kid i m k hi hk
   exact ih k mk h1),Bool.and_true]
  exact h3
def Tw2 (w:World)(g g2:Nat)(i:Nat)(wr:World):Prop :=
 ∃R Q hv sv fv nv S K d X σ R2 Q2 hv2 sv2 fv2 nv2 S2 K2 d2 X2 σ2,All w.heap.size w (twL g R Q hv (hsOf S σ (ms X)) S sv fv nv X ++ (twL g2 R2 Q2 hv2 (hsOf S2 σ2 (ms X2)) S2 sv2 fv2 nv2 X2 ++ [])) wr ∧
  TwS True (fun _=>False) i 0 S K d (ms X) σ∧TwS True (fun _=>False) i 0 S2 K2 d2 (ms X2) σ2∧ms X2=ms X
def LsR2 (w:World)(g g2 n:Nat)(iv:Value)(wr:World):Prop:=∃i:Nat,i≤n∧iv=.int .i64 (i:Int)∧Tw2 w g g2 i wr
def lbx (b b2:Nat)(s t:Int×Int):List Ob:=[bk b2 [.int .i8 t.1,.int .i8 t.2] 73,bk b [.int .i8 s.1,.int .i8 s.2] 73]
structure BxS (b b2:Nat) (s t:Int×Int) (w:World):Prop where
 b1:Blk w b [.int .i8 s.1,.int .i8 s.2] 73
 b2:Blk w b2 [.int .i8 t.1,.int .i8 t.2] 73
theorem bx_of {B:Nat}{w0 w':World}{b b2:Nat}{s t:Int×Int}{l:List Ob}(h:All B w0 (l ++ lbx b b2 s t) w'):BxS b b2 s t w' :=
 ⟨h.P (bk b _ _) (by simp [lbx]),h.P (bk b2 _ _) (by simp [lbx])⟩
def StF (B:Nat)(w0:World)(b b2:Nat)(s t:Int×Int):List Value→World→Prop
 | [],w'=>All B w0 (lbx b b2 s t) w'
 | [v],w'=>∃g R Q hv sv nv X,v=.pointer (some ⟨g,0,none⟩)∧ms X=[newMN 1 [] [] []]∧All B w0 (twL g R Q hv (hsOf (newT s.1 s.2) (fun _=>0) (ms X)) (newT s.1 s.2) sv (.slice none 0 0) nv X ++ lbx b b2 s t) w'
 | [v2,v],w'=>∃g R Q hv sv nv X g2 R2 Q2 hv2 sv2 nv2 X2,v=.pointer (some ⟨g,0,none⟩)∧v2=.pointer (some ⟨g2,0,none⟩)∧ms X=[newMN 1 [] [] []]∧ms X2=[newMN 1 [] [] []] ∧
   All B w0 (twL g2 R2 Q2 hv2 (hsOf (newT t.1 t.2) (fun _=>0) (ms X2)) (newT t.1 t.2) sv2 (.slice none 0 0) nv2 X2 ++ (twL g R Q hv (hsOf (newT s.1 s.2) (fun _=>0) (ms X)) (newT s.1 s.2) sv (.slice none 0 0) nv X ++ lbx b b2 s t)) w'
 | _,_=>False
theorem StF.below {B:Nat}{w0:World}{b b2:Nat}{s t:Int×Int}(k:List Value)(w1 w2:World)(h:StF B w0 b b2 s t k w1)(hb:Below w1.heap.size w1 w2):StF B w0 b b2 s t k w2:=by
 match k,h with
 | [],h=>exact h.still hb
 | [v],⟨g,R,Q,hv,sv,nv,X,e1,e2,h⟩=>exact⟨g,R,Q,hv,sv,nv,X,e1,e2,h.still hb⟩
 | [v2,v],⟨g,R,Q,hv,sv,nv,X,g2,R2,Q2,hv2,sv2,nv2,X2,e1,e2,e3,e4,h⟩=>exact⟨g,R,Q,hv,sv,nv,X,g2,R2,Q2,hv2,sv2,nv2,X2,e1,e2,e3,e4,h.still hb⟩
theorem StF.bx {B:Nat}{w0 w':World}{b b2:Nat}{s t:Int×Int}(k:List Value)(h:StF B w0 b b2 s t k w'):BxS b b2 s t w':=by
 match k,h with
 | [],h=>exact bx_of (l:=[]) h
 | [v],⟨_,_,_,_,_,_,_,_,_,h⟩=>exact bx_of h
 | [v2,v],⟨_,_,_,_,_,_,_,_,_,_,_,_,_,_,_,_,_,_,h⟩=>exact bx_of (l:=_ ++ _) (by rw [List.append_assoc];exact h)
theorem treeSalts_walk {w:World}(hL:Laid w)(A:Option Addr)(n c:Nat)(f:Nat→OpV)(hP:InP w A n f)(hn:n≤9223372036854775807)(hf:∀j,(f j).In)(s1 s2 t1 t2:Int)(hs1:-128≤s1∧s1≤127)(hs2:-128≤s2∧s2≤127)(ht1:-128≤t1∧t1≤127)(ht2:-128≤t2∧t2≤127) :
  Calls Tryz.prog 6 #[.slice A n c,.agg #[.int .i8 s1,.int .i8 s2],.agg #[.int .i8 t1,.int .i8 t2]] w fun e w'=>e=.returned (.bool true)∧Below w.heap.size w w':=by
 have HL:=Lib.hid hL
 have HP:=Lib.hid hP
 have HF:=Lib.hid hf
 have q1:wrap64 s1=s1:=IntWalk.wrap64_in _ (by omega)
 have q2:wrap64 s2=s2:=IntWalk.wrap64_in _ (by omega)
 have q3:wrap64 t1=t1:=IntWalk.wrap64_in _ (by omega)
 have q4:wrap64 t2=t2:=IntWalk.wrap64_in _ (by omega)
 have hA0:=((All.start w).newBk [.int .i8 s1,.int .i8 s2] 73).newBk [.int .i8 t1,.int .i8 t2] 73
 have hsz:(w.alloc (.cells #[.int .i8 s1,.int .i8 s2] 73)).heap.size=w.heap.size+1:=by simp
 have HA0:=Lib.hid (show StF w.heap.size w w.heap.size (w.heap.size+1) (s1,s2) (t1,t2) [] _ by rw [← hsz];exact hA0)
 clear hL hP hf hA0
 go_enter Tryz.func6,Tryz.ntmps6
 go_wp2_with fail
 refine(awake_any _).mono ?_
 rintro e w1 ⟨rfl,hb1⟩
 have HA1:=Lib.hid (StF.below _ _ _ HA0.out hb1)
 have HB1:=Lib.hid (All.below (show All w.heap.size w (lbx w.heap.size (w.heap.size+1) (s1,s2) (t1,t2)) w1 from HA1.out))
 clear hb1 HA0 hsz
 go_wp2_with fail
 refine(tfew_any A n c f (HP.out.below HB1.out) hn).mono ?_
 rintro e w2 ⟨b,rfl,hfew,hw⟩
 rw [hw]
 clear hw
 cases b with
 | false =>
  go_wp2_with fail
  refine(awake_any w1).mono ?_
  rintro e w3 ⟨rfl,hb3⟩
  have HB3:=Lib.hid (bthen HB1.out hb3)
  clear hb3
  go_wp2_with fail
  go_ret
  exact⟨rfl,HB3.out⟩
 | true =>
  obtain⟨hn60,hstr⟩:=hfew rfl
  have HS:=Lib.hid hstr
  clear hfew hstr
  go_upto_region 3 with fail
  haveI hne:Nonempty (InS (BxS w.heap.size (w.heap.size+1) (s1,s2) (t1,t2))):=⟨⟨w1,HA1.out.bx⟩⟩
  have y0:=fun(x:InS (BxS w.heap.size (w.heap.size+1) (s1,s2) (t1,t2)))=>x.h.b1.cell 0
  have y1:=fun(x:InS (BxS w.heap.size (w.heap.size+1) (s1,s2) (t1,t2)))=>x.h.b1.cell 1
  have y2:=fun(x:InS (BxS w.heap.size (w.heap.size+1) (s1,s2) (t1,t2)))=>x.h.b2.cell 0
  have y3:=fun(x:InS (BxS w.heap.size (w.heap.size+1) (s1,s2) (t1,t2)))=>x.h.b2.cell 1
  simp only [zzD,zzE] at y0 y1 y2 y3
  refine reg_g (BxS w.heap.size (w.heap.size+1) (s1,s2) (t1,t2)) (StF w.heap.size w w.heap.size (w.heap.size+1) (s1,s2) (t1,t2)) (fun _ v=>∃g,v=.pointer (some ⟨g,0,none⟩)) 18 (by kernel_rfl) (by kernel_rfl) (fun k w' h=>h.bx) StF.below HA1.out ?_
  simp only [zzF,zzG,zzH,zzI]
  repeat (first
   | (refine RV.m_held (by rfl) (by rfl) (fun K hK=>?_);go_big_quiet_step (fail);refine wpQuiet_nil ?_;refine hK.out _ ?_;clear hK K)
   | (refine RV.m_skip (by rfl) ?_;simp only [Act.put,zzA,zzB,zzC]))
  refine RV.m_call (by rfl) (by rfl) (fun w=>by go_simp;exact⟨rfl,rfl⟩) (⟨_,0,rfl⟩) (fun X wx hx=>?_) (fun v hv=>?_)
  ·have hx2:All w.heap.size w (lbx w.heap.size (w.heap.size+1) (s1,s2) (t1,t2)) wx:=hx
   refine(start_any hx2 s1 s2).mono ?_
   rintro e wy ⟨g,R,Q,hv,sv,nv,X,rfl,hms,hA⟩
   exact⟨_,rfl,⟨g,rfl⟩,g,R,Q,hv,sv,nv,X,rfl,hms,hA⟩
  obtain⟨g,rfl⟩:=hv
  simp only [Act.put,zzA,zzB,zzC]
  repeat (first
   | (refine RV.m_held (by rfl) (by rfl) (fun K hK=>?_);go_big_quiet_step (fail);refine wpQuiet_nil ?_;refine hK.out _ ?_;clear hK K)
   | (refine RV.m_skip (by rfl) ?_;simp only [Act.put,zzA,zzB,zzC]))
  refine RV.m_call (by rfl) (by rfl) (fun w=>by go_simp;exact⟨rfl,rfl⟩) (⟨_,0,rfl⟩) (fun X wx hx=>?_) (fun v hv=>?_)
  ·obtain⟨g',R,Q,hv,sv,nv,X,e1,hms,hA⟩:=hx
   refine(start_any hA t1 t2).mono ?_
   rintro e wy ⟨g2,R2,Q2,hv2,sv2,nv2,X2,rfl,hms2,hA2⟩
   exact⟨_,rfl,⟨g2,rfl⟩,g',R,Q,hv,sv,nv,X,g2,R2,Q2,hv2,sv2,nv2,X2,e1,rfl,hms,hms2,hA2⟩
  obtain⟨g2,rfl⟩:=hv
  simp only [Act.put,zzA,zzB,zzC]
  repeat (first
   | (refine RV.m_held (by rfl) (by rfl) (fun K hK=>?_);go_big_quiet_step (fail);refine wpQuiet_nil ?_;refine hK.out _ ?_;clear hK K)
   | (refine RV.m_skip (by rfl) ?_;simp only [Act.put,zzA,zzB,zzC]))
  refine RV.m_nil ?_
  rintro w3 ⟨g',R,Q,hv,sv,nv,X,g2',R2,Q2,hv2,sv2,nv2,X2,e1,e2,hms,hms2,hA⟩
  cases e1
  cases e2
  have hA1:All w.heap.size w (twL g2 R2 Q2 hv2 (hsOf (newT t1 t2) (fun _=>0) (ms X2)) (newT t1 t2) sv2 (.slice none 0 0) nv2 X2 ++ (twL g R Q hv (hsOf (newT s1 s2) (fun _=>0) (ms X)) (newT s1 s2) sv (.slice none 0 0) nv X ++ [])) w3:=hA.sub (List.Sublist.append_left (List.Sublist.append_left (List.nil_sublist _) _) _)
  have hA3:All w.heap.size w (twL g R Q hv (hsOf (newT s1 s2) (fun _=>0) (ms X)) (newT s1 s2) sv (.slice none 0 0) nv X ++ (twL g2 R2 Q2 hv2 (hsOf (newT t1 t2) (fun _=>0) (ms X2)) (newT t1 t2) sv2 (.slice none 0 0) nv2 X2 ++ [])) w3:=hA1.perm (by simpa using List.perm_append_comm)
  have HR:=Lib.hid (show LsR2 w g g2 n (.int .i64 0) w3 from⟨0,Nat.zero_le _,rfl,R,Q,hv,sv,_,nv,_,_,_,X,_,R2,Q2,hv2,sv2,_,nv2,_,_,_,X2,_,hA3,hms ▸ tws_start s1 s2,hms2 ▸ tws_start t1 t2,by rw [hms,hms2]⟩)
  clear hA hA1 hA3 hms hms2 y0 y1 y2 y3 hne HA1
  go_wp2_with fail
  go_loopw [9] (fun iv wr=>LsR2 w g g2 n iv wr) (fun iv _=>n - intN iv)
  case atStart=>exact HR.out
  case round =>
   obtain⟨i,hi,rfl,R,Q,hv,sv,fv,nv,S,K,d,X,σ,R2,Q2,hv2,sv2,fv2,nv2,S2,K2,d2,X2,σ2,hA,hT,hT2,hXX⟩:=hrel
   obtain⟨ws,rfl⟩:∃q,q=wr:=⟨wr,rfl⟩
   have HA:=Lib.hid hA
   have HT:=Lib.hid hT
   have HT2:=Lib.hid hT2
   have HXX:=Lib.hid hXX
   have hlX:X2.length=X.length:=by have:=congrArg List.length hXX;rw [ms_len,ms_len] at this;exact this
   have hHl:(hsOf S σ (ms X)).length=X.length:=by rw [hsOf_len,ms_len]
   have hHl2:(hsOf S2 σ2 (ms X2)).length=X.length:=by rw [hsOf_len,ms_len,hlX]
   have hA2:All w.heap.size w (twL g2 R2 Q2 hv2 (hsOf S2 σ2 (ms X2)) S2 sv2 fv2 nv2 X2 ++ (twL g R Q hv (hsOf S σ (ms X)) S sv fv nv X ++ [])) ws:=hA.perm (by simpa using List.perm_append_comm)
   have HA2:=Lib.hid hA2
   obtain⟨hva,hvc,hvv⟩:=own_shape (tw_hs hA)
   rw [hHl] at hvv
   subst hvv
   obtain⟨hva2,hvc2,hvv⟩:=own_shape (tw_hs hA2)
   rw [hHl2] at hvv
   subst hvv
   have g2c:=(tw_bk hA).cell 2
   simp only [zzD,zzE] at g2c
   have hgl:=(tw_bk hA).lt
   have HHl:=Lib.hid hHl
   have HHl2:=Lib.hid hHl2
   have hXs:=hT.tw.few
   rw [ms_len] at hXs
   clear hA hA2 hT hT2 hHl hHl2 hXX
   by_cases hgo:i < n∧X.length < 300
   ·obtain⟨hin,hx3⟩:=hgo
    have hii:(i:Int) < (n:Int):=by omega
    have hxx:decide ((X.length:Int) < 300)=true:=by simp;omega
    obtain⟨b,off,rfl,hbl,hc⟩:=(HP.out.below HA.out.below) (by omega)
    obtain⟨p0,p1,p2,p3,p4,p5,p6,p7⟩:=hc i hin
    clear hc
    go_wp2_with fail
    refine(do_any (HL.out.below HA.out.below) HA.out HT.out (by omega) (by omega) (fun _=>by omega) (by omega) (f i) ((HF.out i).ok (HS.out i hin)) (fun y h=>h.elim)).mono ?_
    rintro e w5 ⟨v,ok,S',K',d',X',σ',hv',sv',fv',nv',ts,rs,dl,rfl,hA5,hT5,hex,_,_,_,hst,_⟩
    obtain⟨rfl,hts⟩:=hex trivial
    have hA5':All w.heap.size w (twL g2 R2 Q2 (.slice hva2 X.length hvc2) (hsOf S2 σ2 (ms X2)) S2 sv2 fv2 nv2 X2 ++ (rl v ts :: (twL g R Q hv' (hsOf S' σ' (ms X')) S' sv' fv' nv' X' ++ []))) w5:=hA5.perm (by
     rw [List.append_nil,List.append_nil,← List.cons_append]
     exact List.perm_append_comm)
    have HA5:=Lib.hid hA5'
    have HT5:=Lib.hid hT5
    have HSt:=Lib.hid hst
    have HTl:=Lib.hid (show ts.length=rs.length by rw [hts,List.length_map])
    obtain⟨va,vc,rfl⟩:=own_shape (show Own w5 41 11 v ts.length (rows encR ts) from hA5.head)
    clear hA5 hA5' hT5 hex p0 p1 p2 p3 p4 p5 p6 p7 g2c hgl hst hts hbl
    obtain⟨b',off',eb,hbl,hc⟩:=(HP.out.below HA5.out.below) (by omega)
    cases eb
    obtain⟨p0,p1,p2,p3,p4,p5,p6,p7⟩:=hc i hin
    clear hc
    go_wp2_with fail
    refine(do_any (HL.out.below HA5.out.below) HA5.out HT2.out (by omega) (by omega) (fun _=>by omega) (by omega) (f i) ((HF.out i).ok (HS.out i hin)) (fun y h=>h.elim)).mono ?_
    rintro e w7 ⟨v2,ok2,S2',K2',d2',X2',σ2',hv2',sv2',fv2',nv2',ts2,rs2,dl2,rfl,hA7,hT7,hex,_,_,_,hst2,_⟩
    obtain⟨rfl,hts2⟩:=hex trivial
    have hfn:=HSt.out.fn (HT.out.tw.mw HT.out.ok.lk) (HXX.out ▸ HT2.out.tw.mw HT2.out.ok.lk) (HXX.out ▸ hst2)
    obtain⟨hM,hR⟩:=hfn
    have htl2:ts2.length=ts.length:=by rw [hts2,List.length_map,← hR,HTl.out]
    have hlX':X2'.length=X'.length:=by have:=congrArg List.length hM;rw [ms_len,ms_len] at this;exact this.symm
    obtain⟨va2,vc2,hv2e⟩:=own_shape (show Own w7 41 11 v2 ts2.length (rows encR ts2) from hA7.head)
    rw [htl2] at hv2e
    subst hv2e
    have hA75:All w.heap.size w (twL g2 R2 Q2 hv2' (hsOf S2' σ2' (ms X2')) S2' sv2' fv2' nv2' X2' ++ (twL g R Q hv' (hsOf S' σ' (ms X')) S' sv' fv' nv' X' ++ [])) w7:=hA7.tail.sub (List.Sublist.append_left (List.sublist_cons_self _ _) _)
    have hA8:All w.heap.size w (twL g R Q hv' (hsOf S' σ' (ms X')) S' sv' fv' nv' X' ++ (twL g2 R2 Q2 hv2' (hsOf S2' σ2' (ms X2')) S2' sv2' fv2' nv2' X2' ++ [])) w7:=hA75.perm (by simpa using List.perm_append_comm)
    have hA9:All w.heap.size w (twL g2 R2 Q2 hv2' (hsOf S2' σ2' (ms X2')) S2' sv2' fv2' nv2' X2' ++ (twL g R Q hv' (hsOf S' σ' (ms X')) S' sv' fv' nv' X' ++ [])) w7:=hA8.perm (by simpa using List.perm_append_comm)
    obtain⟨hwa,hwc,hwv⟩:=own_shape (tw_hs hA8)
    rw [hsOf_len,ms_len] at hwv
    obtain⟨hwa2,hwc2,hwv2⟩:=own_shape (tw_hs hA9)
    rw [hsOf_len,ms_len,hlX'] at hwv2
    have HA8:=Lib.hid hA8
    have HA9:=Lib.hid hA9
    have HT7:=Lib.hid hT7
    have HM:=Lib.hid hM
    subst hwv
    subst hwv2
    clear hA7 hA75 hA8 hA9 hT7 hex p0 p1 p2 p3 p4 p5 p6 p7 hst2 hts2 hM hR htl2
    go_upto_region 9 with fail
    have hne:=stb_ne w7
    have y0:=fun(x:InS (StB w7))=>(tw_bk (HA8.out.still x.h)).cell 2
    have y1:=fun(x:InS (StB w7))=>(tw_bk (HA9.out.still x.h)).cell 2
    simp only [zzD,zzE] at y0 y1
    refine reg_f (fun _ _=>True) (fun _ _=>True) 26 (by kernel_rfl) (by kernel_rfl) (fun _ _ _ _ _=>trivial) trivial ?_
    simp only [zzF,zzG,zzH,zzI]
    repeat (first
     | (refine RV.m_held (by rfl) (by rfl) (fun K hK=>?_);go_big_quiet_step (fail);refine wpQuiet_nil ?_;refine hK.out _ ?_;clear hK K)
     | (refine RV.m_skip (by rfl) ?_;simp only [Act.put,zzA,zzB,zzC]))
    refine RV.m_nil ?_
    intro w9 hb9 _
    have HA10:=Lib.hid (HA8.out.still hb9)
    clear y0 y1 hne hb9
    go_wp2_with fail
    go_roundw
    case rel=>exact⟨i+1,by omega,by go_num,_,_,_,_,_,_,_,_,_,_,_,_,_,_,_,_,_,_,_,_,_,_,HA10.out,HT5.out,HT7.out,HM.out.symm⟩
    case measure=>simp [intN];omega
   ·rcases(show n≤i∨(i < n∧300≤X.length) by omega) with h1 | ⟨h1,h2⟩
    all_goals
     first
      | (have h3:=h2;have hii:(i:Int) < (n:Int):=(by omega);have hxx:decide ((X.length:Int) < 300)=false:=(by simp;omega))
      | (obtain rfl:i=n:=by omega)
     clear hgo
     go_wp2_with fail
     clear g2c hgl
     go_loopw [14] (fun iv wr=>EqL ws X.length iv wr) (fun iv _=>X.length - intN iv)
     case atStart=>exact⟨0,Nat.zero_le _,rfl,Below.refl _ _⟩
     case round =>
      obtain⟨j,hj,rfl,hB⟩:=hrel
      obtain⟨wq,rfl⟩:∃q,q=wr:=⟨wr,rfl⟩
      have HB:=Lib.hid hB
      have HAq:=Lib.hid (HA.out.still hB)
      have HAq2:=Lib.hid (HA2.out.still hB)
      have g2d:=(tw_bk HAq.out).cell 2
      simp only [zzD,zzE] at g2d
      have hgl:=(tw_bk HAq.out).lt
      clear hB
      by_cases hlt:j < X.length
      ·obtain⟨hd,hhd,hho,hcase⟩:=hs_ok HT.out (i:=j) (by rw [ms_len];exact hlt)
       obtain⟨hd2,hhd2,hho2,hcase2⟩:=hs_ok HT2.out (i:=j) (by rw [ms_len,hlX];exact hlt)
       rw [HXX.out] at hcase2
       obtain⟨gh,rfl,hghl,hgh⟩:=tw_hcell HAq.out HHl.out _ _ hhd
       obtain⟨gh2,rfl,hghl2,hgh2⟩:=tw_hcell HAq2.out HHl2.out _ _ hhd2
       have hai:(j:Int) < (X.length:Int):=by omega
       have hT2':TwS True (fun _=>False) i 0 S2 K2 d2 (ms X) σ2:=HXX.out ▸ HT2.out
       have key:∀wx,Below wq.heap.size wq wx→Calls Tryz.prog 31 #[.pointer (some ⟨R,0,none⟩),.int .i64 hd,.pointer (some ⟨R2,0,none⟩),.int .i64 hd2] wx fun e w'=>e=.returned (.bool (lv (ms X) j).isSome)∧Below wx.heap.size wx w':=fun wx hbx=>by
        have t1:=tw_tr (HAq.out.still hbx)
        have t2:=tw_tr (HAq2.out.still hbx)
        rcases hcase with ⟨m,n1,hm,hn1,rfl⟩ | ⟨hm,rfl,hix⟩
        ·rcases hcase2 with ⟨m2,n2,hm2,hn2,rfl⟩ | ⟨hm2,_,_⟩
         ·refine(same_at HT.out.ok.lk hT2'.ok.lk (fun x m hx=>by have:=(HT.out.ok.nd x m hx).al;omega) (fun x m hx=>by have:=(hT2'.ok.nd x m hx).al;omega) _ wx t1 t2 (σ j) (σ2 j) n1 n2 hn1 hn2 rfl).mono ?_
          rintro e w' ⟨rfl,hb⟩
          exact⟨by rw [same_tw HT.out hT2' _ j m hm,hm];rfl,hb⟩
         ·rw [hm] at hm2;cases hm2
        ·rcases hcase2 with ⟨m2,n2,hm2,hn2,rfl⟩ | ⟨hm2,rfl,hix2⟩
         ·rw [hm] at hm2;cases hm2
         ·refine(same_none t1 t2 (-1) (-1) hho hho2 hix hix2).mono ?_
          rintro e w' ⟨rfl,hb⟩
          exact⟨by rw [hm];rfl,hb⟩
       have Key:=Lib.hid key
       clear key hcase hcase2 hT2'
       go_upto_region 14 with fail
       have hne:=stb_ne wq
       have y0:=fun(x:InS (StB wq))=>(tw_bk (HAq.out.still x.h)).cell 0
       have y1:=fun(x:InS (StB wq))=>(tw_bk (HAq.out.still x.h)).cell 1
       have y2:=fun(x:InS (StB wq))=>(tw_bk (HAq.out.still x.h)).cell 2
       have y3:=fun(x:InS (StB wq))=>cell_keep x.h hgh
       have z0:=fun(x:InS (StB wq))=>(tw_bk (HAq2.out.still x.h)).cell 0
       have z2:=fun(x:InS (StB wq))=>(tw_bk (HAq2.out.still x.h)).cell 2
       have z3:=fun(x:InS (StB wq))=>cell_keep x.h hgh2
       simp only [zzD,zzE] at y0 y1 y2 z0 z2
       clear g2d hgl
       refine reg_f (fun _ _=>True) (fun _ v=>v=.bool (lv (ms X) j).isSome) 30 (by kernel_rfl) (by kernel_rfl) (fun _ _ _ _ _=>trivial) trivial ?_
       simp only [zzF,zzG,zzH,zzI]
       repeat (first
        | (refine RV.m_held (by rfl) (by rfl) (fun K hK=>?_);go_big_quiet_step (fail);refine wpQuiet_nil ?_;refine hK.out _ ?_;clear hK K)
        | (refine RV.m_skip (by rfl) ?_;simp only [Act.put,zzA,zzB,zzC]))
       refine RV.m_call (by rfl) (by rfl) (fun w=>by go_simp;exact⟨rfl,rfl⟩) (⟨_,rfl⟩) (fun X wx hx=>?_) (fun v hv=>?_)
       ·refine(Key.out _ hx.1).mono ?_
        rintro e wy ⟨rfl,hb⟩
        exact⟨_,rfl,rfl,bthen hx.1 hb,trivial⟩
       obtain rfl:v=.bool (lv (ms X) j).isSome:=hv
       simp only [Act.put,zzA,zzB,zzC]
       repeat (first
        | (refine RV.m_held (by rfl) (by rfl) (fun K hK=>?_);go_big_quiet_step (fail);refine wpQuiet_nil ?_;refine hK.out _ ?_;clear hK K)
        | (refine RV.m_skip (by rfl) ?_;simp only [Act.put,zzA,zzB,zzC]))
       refine RV.m_call (by rfl) (by rfl) (fun w=>by go_simp;exact⟨rfl,rfl⟩) (⟨_,rfl⟩) (fun X wx hx=>?_) (fun v hv=>?_)
       ·refine(hasT (HAq.out.still hx.1) j (by omega) ⟨by omega,by omega⟩).mono ?_
        rintro e wy ⟨rfl,hw⟩
        exact⟨_,rfl,rfl,by rw [hw];exact hx.1,trivial⟩
       obtain rfl:v=.bool (lv (ms X) j).isSome:=hv
       simp only [Act.put,zzA,zzB,zzC]
       repeat (first
        | (refine RV.m_held (by rfl) (by rfl) (fun K hK=>?_);go_big_quiet_step (fail);refine wpQuiet_nil ?_;refine hK.out _ ?_;clear hK K)
        | (refine RV.m_skip (by rfl) ?_;simp only [Act.put,zzA,zzB,zzC]))
       refine RV.m_nil ?_
       intro w9 hb9 _
       have HB9:=Lib.hid (bthen HB.out hb9)
       clear y0 y1 y2 y3 z0 z2 z3 hne hb9 hgh hgh2 hghl hghl2
       generalize (lv (ms X) j).isSome=bv at *
       go_wp2_with fail
       go_roundw
       case rel=>exact⟨j+1,by omega,by go_num,HB9.out⟩
       case measure=>simp [intN];omega
      ·obtain rfl:j=X.length:=by omega
       go_wp2_with fail
       go_ret
       exact⟨rfl,HA.out.below.trans (HB.out.mono HA.out.below.size)⟩
end Go.Proofs.YtfelmdkeaacfeaaGreatDoor.W
end
section
namespace Go.Proofs.YtfelmdkeaacfeaaGreatDoor.W
open Go.ChangeShapes Go.WideShapes Go.ChangeAt Go.RowKit Go.Joins Go.Shelf
def lst : List (String × DataW Unit) := [("unicode/utf8.acceptRanges", Rows.laid_unicode_utf8_acceptRanges), ("unicode/utf8.first", Rows.laid_unicode_utf8_first)]
theorem first_eq:Rows.laid_unicode_utf8_first=Lib.firstData:=by kernel_rfl
theorem accept_eq:(Rows.laid_unicode_utf8_acceptRanges:DataW Unit)=Lib.acceptData:=by kernel_rfl
theorem laid_of {w:World}(h:laidMetH Tryz.prog lst w)(hs:w.ShapedOpen Tryz.prog):Laid w:=by
 have h1:=Lib.laidMet.reads h (.tail _ (.head _))
 have h2:=Lib.laidMet.reads h (.head _)
 rw [first_eq] at h1
 rw [accept_eq] at h2
 exact⟨utf8Tabs_of_readsT (U8Types.of196 Tryz.laysValid) ⟨by kernel_rfl,by kernel_rfl,by kernel_rfl,by kernel_rfl,by kernel_rfl,by kernel_rfl,by kernel_rfl⟩ h1 h2⟩
noncomputable def laidWorld (os:Os):World :=
 let w0:=World.holding Tryz.prog os ⟨#[],#[],[]⟩
 let put (h:Array Obj) (g:Nat) (cs:Array Value):Array Obj:=h.modify g fun
  | .cells _ t frozen=>.cells cs t frozen
  | o=>o
 let h1:=put w0.heap 0 (Lib.firstTab.map fun z=>Value.int .u8 z).toArray
 let h2:=put h1 1 ((List.range 16).flatMap fun i=>[Value.int .u8 (Lib.accLo i),Value.int .u8 (Lib.accHi i)]).toArray
 { w0 with heap:=h2 }
theorem laid_met (os:Os)(args:Array Value):laidMet Tryz.prog lst ((laidWorld os).forCall (fun _ _=>0) ⟨#[],args,[]⟩).memory :=
 (LaidIn.of_run (l:=lst) [0,1] 8 (by kernel_rfl) (by kernel_rfl) (by kernel_rfl) (by kernel_rfl)).met
end Go.Proofs.YtfelmdkeaacfeaaGreatDoor.W
end
section
namespace Go.Proofs.YtfelmdkeaacfeaaGreatDoor.W
open Go.ChangeShapes Go.WideShapes Go.ChangeAt Go.RowKit Go.Joins Go.Deep
section
variable {H : Type} {enc : TypeId × Value → H} {P : Program} {w : World}
theorem array_two {α : Type}{cs:Array α}(h:cs.size=2):∃c0 c1,cs=#[c0,c1]:=by
 obtain⟨l⟩:=cs
 match l,h with
 | [c0,c1],_=>exact⟨c0,c1,rfl⟩
theorem trod_two {base:Nat}{spare:Nat→Bool}{held:Bool}{t e:TypeId}{fuel:Nat}{c0 c1:Value}{x:DataW H×List MemPlace}(ht:P.underlying t=some (.array 2 e))(hce:P.cellsOf e=1)
  (h:DataW.trod enc P w base spare held fuel t [c0,c1]=some x) :
  ∃y0 y1 n,DataW.trod enc P w base spare held n e [c0]=some y0∧DataW.trod enc P w base spare held n e [c1]=some y1:=by
 cases fuel with
 | zero=>simp [DataW.trod] at h
 | succ n =>
  unfold DataW.trod at h
  rw [ht] at h
  have r2:List.range 2=[0,1]:=rfl
  simp [r2,hce] at h
  obtain⟨_,h⟩:=h
  cases h0:DataW.trod enc P w base spare held n e [c0] with
  | none=>simp [h0] at h
  | some y0 =>
   cases h1:DataW.trod enc P w base spare held n e [c1] with
   | none=>simp [h0,h1] at h
   | some y1=>exact⟨y0,y1,n,h0,h1⟩
theorem open_i8s2 {r:Reach}{b0:Nat}{t e:TypeId}{v:Value}{d:DataW H}{ps:List MemPlace}(ht:P.underlying t=some (.array 2 e))(he:P.underlying e=some (.int .i8))(hc:P.cellsOf e=1)(hC:P.cellsOf t=2)
  (hval:Value.okWide P w r b0 t v)(h:DataW.Trod enc P w 0 (fun _=>true) true t v d ps) :
  ∃x y,v=.agg #[.int .i8 x,.int .i8 y]∧(-128≤x∧x≤127)∧(-128≤y∧y≤127):=by
 simp only [Value.okWide,ht] at hval
 obtain⟨cs,rfl,hsz,_⟩:=hval
 obtain⟨c0,c1,rfl⟩:=array_two (hsz.trans hC)
 obtain⟨fuel,hf⟩:=h
 obtain⟨y0,y1,n,h0,h1⟩:=trod_two ht hc (by simpa [Value.cells] using hf)
 obtain⟨x,e0,_,w0⟩:=DataW.trod_int he h0
 obtain⟨y,e1,_,w1⟩:=DataW.trod_int he h1
 simp at e0 e1
 subst e0 e1
 exact⟨x,y,rfl,bounds_i8 w0,bounds_i8 w1⟩
end
end Go.Proofs.YtfelmdkeaacfeaaGreatDoor.W
end
