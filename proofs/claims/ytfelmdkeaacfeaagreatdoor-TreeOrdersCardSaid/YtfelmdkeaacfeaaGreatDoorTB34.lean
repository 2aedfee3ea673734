/- Texts joined: DoG DoH MkA DoM. -/
import Derived.Test.YtfelmdkeaacfeaaGreatDoorTB1
import Derived.Test.YtfelmdkeaacfeaaGreatDoorTB33
import Derived.Test.YtfelmdkeaacfeaaGreatDoorTB27
import Derived.Test.YtfelmdkeaacfeaaGreatDoorTB21
set_option maxRecDepth 100000
set_option maxHeartbeats 40000000
set_option linter.unusedVariables false
set_option linter.unusedSimpArgs false
section
namespace Go.Proofs.YtfelmdkeaacfeaaGreatDoor.W
open Go.RowKit
theorem qP {P:Program}{id:Nat}{Q':Exit→Act→World→Prop}{a:Act}{w:World}{ls:List Oper}(S:World→Prop)(F:List Value→World→Prop)(V:List Value→Value→Prop)(m:Nat)
  (hm:P.follows .mixedOrders=true)(hB:xh .any ls.toArray m (ls.length - m)=true)(hS:∀k w',F k w'→S w')(hF:∀k w1 w2,F k w1→Below w1.heap.size w1 w2→F k w2)(h0:F [] w)
  (h:RV.qi P ls.toArray ⟨S,fun k X w'=>F k w',V,fun _ _=>undef,fun _=>[],fun _=>0⟩ (fun k X a'=>∀w',F k w'→wpList P ls.toArray Q' (ls.drop m) a' w') 0 [] [] (ls.take m) a):(Code.region id ls.toArray true).wp P Q' a w :=
 RV.sH ⟨S,fun k X w'=>F k w',V,fun _ _=>undef,fun _=>[],fun _=>0⟩ m hm hB (fun k X w h=>hS k w h) (fun k X w' cs ty h=>hF k _ _ h ((ak _ _).alloc (au _) _)) (fun k X Y w hp h=>h) (hF [] _ _ h0 ((ak _ _).drew)) h
structure wu (g R Q gh i b:Nat) (hv:Value) (hd:Int) (o:ou) (w:World):Prop where
 bk:dD w g [.pointer (some ⟨R,0,none⟩),.pointer (some ⟨Q,0,none⟩),hv] 33
 hc:w.cell? ⟨gh,i,none⟩=some (.int .i64 hd)
 bx:dD w b (opC o) 39
structure uZ (g R Q b:Nat) (hv:Value) (o:ou) (w:World):Prop where
 bk:dD w g [.pointer (some ⟨R,0,none⟩),.pointer (some ⟨Q,0,none⟩),hv] 33
 bx:dD w b (opC o) 39
section
variable {B : Nat} {w0 w w' : World} {l : List Ob} {g R Q b gh n vc i : Nat} {hv sv fv nv : Value} {S : Tr} {X : List MX} {Hs : List Int} {o : ou} {hd : Int} {Res : Tr → List (List Value) → Int → Prop} {MR : List MN → List Rc → Int → Prop}
def Ey (B:Nat)(w0:World)(l:List Ob)(g R Q:Nat)(hv:Value)(Hs:List Int)(nv:Value)(X:List MX)(b:Nat)(o:ou)(Res:Tr→List (List Value)→Int→Prop)(v:Value)(w':World):Prop :=
 ∃S' sv' fv' v0 ts er,v=.tuple #[v0,.int .i64 er]∧Res S' (ts.map encR) er∧All B w0 (rl v0 ts :: (kK g R Q hv Hs S' sv' fv' nv X ++ l)) w'∧dD w' b (opC o) 39
def TF (w:World)(P:Value→World→Prop):List Value→World→Prop
 | [],w'=>jc w w'
 | [v],w'=>P v w'
 | _ :: _ :: _,_=>False
theorem kL {P:Value→World→Prop}(hP:∀v w1 w2,P v w1→Below w1.heap.size w1 w2→P v w2)(k:List Value)(w1 w2:World)(h:TF w P k w1)(hb:Below w1.heap.size w1 w2):TF w P k w2:=by
 match k,h with
 | [],h=>exact aV h hb
 | [v],h=>exact hP v w1 w2 h hb
theorem Aj {P:Value→World→Prop}{C:World→Prop}(h0:∀w',jc w w'→C w')(hP:∀v w',P v w'→C w')(k:List Value)(w':World)(h:TF w P k w'):C w':=by
 match k,h with
 | [],h=>exact h0 w' h
 | [v],h=>exact hP v w' h
theorem pq (v:Value)(w1 w2:World)(h:Ey B w0 l g R Q hv Hs nv X b o Res v w1)(hb:Below w1.heap.size w1 w2):Ey B w0 l g R Q hv Hs nv X b o Res v w2:=by
 obtain⟨S',sv',fv',v0,ts,er,e,hr,hA,hk⟩:=h
 exact⟨S',sv',fv',v0,ts,er,e,hr,hA.still hb,hk.below hb⟩
theorem wG (hA:All B w0 (kK g R Q hv Hs S sv fv nv X ++ l) w)(hk:dD w b (opC o) 39){e:Ending}(h:TI R S sv fv w Res e w'):∃v,e=.returned v∧(∃v0 er,v=.tuple #[v0,.int .i64 er])∧Ey B w0 l g R Q hv Hs nv X b o Res v w':=by
 obtain⟨S',sv',fv',v,ls,er,hres,rfl,hrc,hTo,ts,hts⟩:=h
 rw [hts] at hrc hres
 exact⟨_,rfl,⟨_,_,rfl⟩,S',sv',fv',v,ts,er,rfl,hres,hTo.I7 (sG.row hrc) hA,Ep hk hTo (jF hA)⟩
theorem rJ (hA:All B w0 (kK g R Q (.slice (some ⟨gh,0,none⟩) n vc) Hs S sv fv nv X ++ l) w)(hk:dD w b (opC o) 39)(hc:w.cell? ⟨gh,i,none⟩=some (.int .i64 hd))(w':World)(h:jc w w'):wu g R Q gh i b (.slice (some ⟨gh,0,none⟩) n vc) hd o w' :=
 ⟨bF (hA.still h),aU h hc,hk.below h⟩
theorem Gi (hn:Hs.length=n)(hi:Hs[i]? = some hd)(v:Value)(w':World)(h:Ey B w0 l g R Q (.slice (some ⟨gh,0,none⟩) n vc) Hs nv X b o Res v w'):wu g R Q gh i b (.slice (some ⟨gh,0,none⟩) n vc) hd o w':=by
 obtain⟨S',sv',fv',v0,ts,er,e,hr,hA,hk⟩:=h
 obtain⟨gh',e2,_,hc⟩:=jk hA.tail hn i hd hi
 cases e2
 exact⟨bF hA.tail,hc,hk⟩
def Iu (B:Nat)(w0:World)(l:List Ob)(g R Q:Nat)(hv:Value)(Hs:List Int)(S:Tr)(sv fv v0:Value)(ts:List Rc)(b:Nat)(o:ou)(MR:List MN→List Rc→Int→Prop)(v:Value)(w':World):Prop :=
 ∃X' nv' v2 rs en,v=.tuple #[v2,.int .i64 en]∧MR (ms X') rs en∧All B w0 (rl v0 ts :: (kK g R Q hv Hs S sv fv nv' X' ++ l)) w'∧Own w' 144 11 v2 rs.length (rows encR rs)∧dD w' b (opC o) 39
theorem xZ {v0:Value}{ts:List Rc}(v:Value)(w1 w2:World)(h:Iu B w0 l g R Q hv Hs S sv fv v0 ts b o MR v w1)(hb:Below w1.heap.size w1 w2):Iu B w0 l g R Q hv Hs S sv fv v0 ts b o MR v w2:=by
 obtain⟨X',nv',v2,rs,en,e,hr,hA,ho,hk⟩:=h
 exact⟨X',nv',v2,rs,en,e,hr,hA.still hb,bH ho hb,hk.below hb⟩
theorem FX {X':List MX}{nv':Value}{cs:List Value}(hk:dD w b cs 39)(hM:jC Q nv X w)(k:fU Q nv X w nv' X' w'):dD w' b cs 39 :=
 hk.kept (k.qU.block b hk.lt (fun hf=>by
  rcases hf with e | e | ⟨x,hx,e | e⟩
  ·exact dw hM.W.blk hk (by decide) e.symm
  ·obtain⟨cur,hc⟩:=gJ hM.W.row e;exact dw hc hk (by decide) rfl
  ·obtain⟨cur,hc⟩:=gJ (hM.W.sF x hx) e;exact dw hc hk (by decide) rfl
  ·obtain⟨cur,hc⟩:=gJ (hM.W.kid x hx) e;exact dw hc hk (by decide) rfl))
theorem wQ {v0:Value}{ts:List Rc}{gm cap:Nat}(hA:All B w0 (rl v0 ts :: (kK g R Q hv Hs S sv fv (.slice (some ⟨gm,0,none⟩) X.length cap) X ++ l)) w)(hk:dD w b (opC o) 39){e:Ending}(h:L6 Q gm cap X w MR e w'):∃v,e=.returned v∧(∃v2 en,v=.tuple #[v2,.int .i64 en])∧Iu B w0 l g R Q hv Hs S sv fv v0 ts b o MR v w':=by
 obtain⟨X',v,rs,en,hr,rfl,ho,hM⟩:=h
 exact⟨_,rfl,⟨_,_,rfl⟩,X',_,v,rs,en,rfl,hr,hM.tw hA,iD ho (aZ _),FX hk (lG hA.tail) hM⟩
def Cj (g R Q gh i j b:Nat)(hv:Value)(hd hdb:Int)(o:ou)(w:World):Prop:=wu g R Q gh i b hv hd o w∧w.cell? ⟨gh,j,none⟩=some (.int .i64 hdb)
def Vm (w:World)(P:Value→World→Prop):List Value→World→Prop
 | [],w'=>jc w w'
 | [_],w'=>jc w w'
 | [v,_],w'=>P v w'
 | _ :: _ :: _ :: _,_=>False
theorem Fp {P:Value→World→Prop}(hP:∀v w1 w2,P v w1→Below w1.heap.size w1 w2→P v w2)(k:List Value)(w1 w2:World)(h:Vm w P k w1)(hb:Below w1.heap.size w1 w2):Vm w P k w2:=by
 match k,h with
 | [],h=>exact aV h hb
 | [_],h=>exact aV h hb
 | [v,_],h=>exact hP v w1 w2 h hb
theorem Td {P:Value→World→Prop}{C:World→Prop}(h0:∀w',jc w w'→C w')(hP:∀v w',P v w'→C w')(k:List Value)(w':World)(h:Vm w P k w'):C w':=by
 match k,h with
 | [],h=>exact h0 w' h
 | [_],h=>exact h0 w' h
 | [v,_],h=>exact hP v w' h
theorem Qx {j:Nat}{hdb:Int}(hn:Hs.length=n)(hi:Hs[j]? = some hdb)(v:Value)(w':World)(h:Ey B w0 l g R Q (.slice (some ⟨gh,0,none⟩) n vc) Hs nv X b o Res v w'):w'.cell? ⟨gh,j,none⟩=some (.int .i64 hdb):=by
 obtain⟨S',sv',fv',v0,ts,er,e,hr,hA,hk⟩:=h
 obtain⟨gh',e2,_,hc⟩:=jk hA.tail hn j hdb hi
 cases e2
 exact hc
theorem Jj {gm cap:Nat}{D:Nat→Nat}(h:jC Q (.slice (some ⟨gm,0,none⟩) X.length cap) X w)(hW:MW (ms X) D){p c:Nat}{mp mc:MN}(hp:lv (ms X) p=some mp)(hc:lv (ms X) c=some mc)(oq:Option Nat)(hol:∀q,oq=some q→∃mq,lv (ms X) q=some mq) :
  Calls Tryz.prog 43 #[.pointer (some ⟨Q,0,none⟩),.int .i64 (p:Int),.int .i64 (c:Int),.int .i64 (pI oq)] w (L6 Q gm cap X w (zX (ms X) D p c oq mp mc)):=by
 have hnil:∀w' en,w'=w→zX (ms X) D p c oq mp mc (ms X) [] en→L6 Q gm cap X w (zX (ms X) D p c oq mp mc) (.returned (.tuple #[.slice none 0 0,.int .i64 en])) w':=fun w' en hw hm=>by
  subst hw
  exact⟨X,_,[],en,hm,rfl,aG _ _ _ _,fU.refl h (ak _ _)⟩
 cases hch:zt (ms X) D p c mp mc with
 | false =>
  refine(Rz h hW hc hp (pI oq) hch).mono ?_
  rintro e w' ⟨rfl,hw⟩
  exact hnil w' 10 hw (.no hch)
 | true =>
  by_cases hin:∀b,oq=some b→∃mb,lv (ms X) b=some mb∧mb.par=some p
  ·by_cases hd:D p+hgt (kM (ms X)) (128 - D c) c≤128
   ·have hpc:p≠c:=fun e=>by
     subst e
     have hd1:=hW.Sm hp
     unfold zt at hch
     split at hch
     ·cases hch
     ·rename_i hno
      refine hno (.inr ?_)
      obtain⟨t,ht⟩:∃t,D p=t+1:=⟨D p - 1,by omega⟩
      rw [ht]
      simp [oQ]
    refine(Ry h hW hc hp hpc oq hin hch hd).mono ?_
    rintro e w' ⟨X',v,rs,hm,rfl,ho,hM⟩
    exact⟨X',v,rs,0,.ok _ rs hch hin hd hm,rfl,ho,hM⟩
   ·refine(P6 h hW hc hp oq hin hch (by omega)).mono ?_
    rintro e w' ⟨rfl,hw⟩
    exact hnil w' 5 hw (.far hch hin (by omega))
  ·obtain⟨b,rfl,mb,hb,hbp⟩:∃b,oq=some b∧∃mb,lv (ms X) b=some mb∧mb.par≠some p:=by
    cases oq with
    | none=>exact absurd (fun b hb=>by cases hb) hin
    | some b =>
     obtain⟨mb,hb⟩:=hol b rfl
     exact⟨b,rfl,mb,hb,fun e=>hin (fun b' e'=>by cases e';exact⟨mb,hb,e⟩)⟩
   refine(La h hW hc hp hb hch hbp).mono ?_
   rintro e w' ⟨rfl,hw⟩
   exact hnil w' 10 hw (.other b mb hch rfl hb hbp)
end
section
variable {ex : Prop} {E : Nat → Prop} {c x : Nat} {S : Tr} {K : Nat → List Nat} {d : Nat → Nat} {M : List MN} {σ : Nat → Nat} {R : Nat} {sv fv : Value} {w : World}
inductive Q3 (S:Tr) (K:Nat→List Nat) (d:Nat→Nat) (i:Nat) (n:Nd):Tr→Int→Prop
 | held (h:n.parent≠0∨n.kind=1):Q3 S K d i n S 7
 | ok (h1:n.parent=0) (h2:n.kind≠1):Q3 S K d i n (S.ja (dR K (128 - d i) i)) 0
theorem Mc (L:Lk S K d){i:Nat}{n:Nd}(hi:S.at i=some n)(hp:n.parent=0):∀q,i∉K q:=fun q hq=>by
 obtain⟨j,hj⟩:=aI.1 hq
 obtain⟨nq,hnq⟩:=aB.1 (L.kin q i hq).1
 have h1:=(L.kid q j i n hj hi).1
 have:=(hd_ok L hnq).2
 omega
theorem Pn (h:fZ 0 R S sv fv w)(T:iP c S K d)(i:Nat)(n:Nd)(hi:S.at i=some n)(hs:S.slots.length≤3000) :
  Calls Tryz.prog 25 #[.pointer (some ⟨R,0,none⟩),.int .i64 (S.hd i)] w fun e w'=>∃S' sv' fv' er,Q3 S K d i n S' er∧e=.returned (.int .i64 er)∧qh R S sv fv w S' sv' fv' w':=by
 obtain⟨g,cap,rfl⟩:=fO h (by have:=iy hi;omega)
 have hfl:=T.Ju
 by_cases hp:n.parent=0
 ·by_cases hk:n.kind=1
  ·refine(Dw h T.lk i n hi (.inr hk)).mono ?_
   rintro e w' ⟨rfl,hb⟩
   exact⟨S,_,_,7,.held (.inr hk),rfl,qh.refl h hb⟩
  ·refine(Pm h T.lk i n hi hp hk (by omega)).mono ?_
   rintro e w' ⟨fv',rfl,hT,hC,hfv⟩
   have h0:i≠0:=fun e=>by
    obtain⟨n0,h1,h2⟩:=T.doc
    rw [e,h1] at hi;cases hi;exact hk h2
   have F:=Bc T hi (Mc T.lk hi hp) h0
   refine⟨_,_,fv',0,.ok hp hk,rfl,hT,hC.mono (fun k _ hk=>?_),fun k hk=>?_⟩
   ·rcases hk with e | e | e
    ·exact .inl e
    ·exact .inr (.inl (by rw [e];rfl))
    ·exact .inr (.inr (.inl e))
   ·rcases hk with e | e | e | ⟨y,m,hy,hne,e⟩
    ·exact .inl (.inl e)
    ·exact .inl (.inr (.inl e))
    ·rcases hfv with e2 | ⟨q,e2,hq⟩
     ·exact .inl (.inr (.inr (.inl (e2 ▸ e))))
     ·rw [e2] at e;cases e;exact .inr hq
    ·rw [vV F] at hy
     split at hy
     ·cases hy
     ·exact .inl (.inr (.inr (.inr ⟨y,m,hy,hne,e⟩)))
 ·refine(Dw h T.lk i n hi (.inl hp)).mono ?_
  rintro e w' ⟨rfl,hb⟩
  exact⟨S,_,_,7,.held (.inl hp),rfl,qh.refl h hb⟩
def qC (M':List MN)(i:Nat)(Hs:List Int):List Int:=Hs.mapIdx fun j h=>if j < i∧(lv M' j).isNone then -1 else h
theorem IE (M':List MN)(i:Nat)(Hs:List Int):(qC M' i Hs).length=Hs.length:=by unfold qC;rw [gQ]
theorem Ff (M':List MN)(Hs:List Int):qC M' 0 Hs=Hs:=by
 unfold qC
 apply gu
 intro j
 rw [dB]
 cases Hs[j]? <;> simp
theorem Fg {M':List MN}{i:Nat}{m:MN}(h:lv M' i=some m)(Hs:List Int):qC M' (i+1) Hs=qC M' i Hs:=by
 unfold qC
 apply gu
 intro j
 rw [dB,dB]
 cases Hs[j]? with
 | none=>rfl
 | some v =>
  show some _=some _
  congr 1
  by_cases e:j=i
  ·subst e;simp [h]
  ·have:(j < i+1∧(lv M' j).isNone=true)↔(j < i∧(lv M' j).isNone=true):=by constructor <;> (rintro⟨a,b⟩;exact⟨by omega,b⟩)
   simp only [this]
theorem Fh {M':List MN}{i:Nat}(h:lv M' i=none)(Hs:List Int)(hi:i < Hs.length):qC M' (i+1) Hs=(qC M' i Hs).set i (-1):=by
 unfold qC
 apply gu
 intro j
 rw [dB,dH,gQ,dB]
 by_cases e:i=j
 ·subst e
  rw [aC rfl,aC hi,ay hi]
  simp [h]
 ·rw [ax e]
  cases Hs[j]? with
  | none=>rfl
  | some v =>
   show some _=some _
   congr 1
   have:(j < i+1∧(lv M' j).isNone=true)↔(j < i∧(lv M' j).isNone=true):=by constructor <;> (rintro⟨a,b⟩;exact⟨by omega,b⟩)
   simp only [this]
theorem Dt {S':Tr}{M':List MN}(hl:M'.length=M.length)(hd:∀i m,lv M' i=some m→(lv M i).isSome=true)(hb:S'.b=S.b∧S'.s=S.s):qC M' M.length (iZ S σ M)=iZ S' σ M':=by
 unfold qC
 apply gu
 intro j
 rw [dB]
 by_cases hj:j < M.length
 ·rw [uz hj,uz (by omega)]
  show some _=some _
  congr 1
  cases e:lv M' j with
  | none=>simp [hj]
  | some m =>
   have:=hd j m e
   rw [this]
   simp
   unfold Tr.hd;rw [hb.1,hb.2]
 ·rw [bQ (by rw [jJ];omega),bQ (by rw [jJ];omega)];rfl
theorem Uu (Hs:List Int)(i:Nat)(v:Int):hC (Hs.set i v)=(hC Hs).set i (.int .i64 v):=by unfold hC;rw [List.map_set]
theorem Fj {B:Nat}{w0:World}{l:List Ob}{g Q gh n vc:Nat}{nv:Value}{X:List MX}{Hs:List Int}(h:All B w0 (kK g R Q (.slice (some ⟨gh,0,none⟩) n vc) Hs S sv fv nv X ++ l) w)(hn:Hs.length=n)(i:Nat)(v:Int):All B w0 (kK g R Q (.slice (some ⟨gh,0,none⟩) n vc) (Hs.set i v) S sv fv nv X ++ l) (w.setCell ⟨gh,i,none⟩ (.int .i64 v)):=by
 subst hn
 have ho:=lL h
 refine h.step [bk g [.pointer (some ⟨R,0,none⟩),.pointer (some ⟨Q,0,none⟩),.slice (some ⟨gh,0,none⟩) Hs.length vc] 33] (o:=sl 3 1 (.slice (some ⟨gh,0,none⟩) Hs.length vc) Hs.length (hC Hs)) (o':=sl 3 1 (.slice (some ⟨gh,0,none⟩) Hs.length vc) (Hs.set i v).length (hC (Hs.set i v))) (l2:=Bg R S sv fv :: ui Q nv X :: l) ?_ ((dU.refl (sl 3 1 (.slice (some ⟨gh,0,none⟩) Hs.length vc) Hs.length (hC Hs)).F w).setCell ⟨gh,i,none⟩ (fun _=>(rfl:(Value.slice (some ⟨gh,0,none⟩) Hs.length vc).ownBlock=some gh)) _) (fun k hk=>.inl hk)
 have:=tZ ho i (.int .i64 v)
 rw [← Uu] at this
 show Own _ _ _ _ (Hs.set i v).length _
 rw [dI]
 exact this
def SX (B:Nat)(w0:World)(l:List Ob)(g R Q:Nat)(hv:Value)(Hs:List Int)(nv:Value)(X:List MX)(b:Nat)(o:ou)(S:Tr)(K:Nat→List Nat)(d:Nat→Nat)(i:Nat)(n:Nd)(v:Value)(w':World):Prop :=
 ∃S' sv' fv' er,v=.int .i64 er∧Q3 S K d i n S' er∧All B w0 (kK g R Q hv Hs S' sv' fv' nv X ++ l) w'∧dD w' b (opC o) 39
theorem LP {B:Nat}{w0:World}{l:List Ob}{g Q b i:Nat}{hv nv:Value}{Hs:List Int}{X:List MX}{o:ou}{n:Nd}(v:Value)(w1 w2:World)(h:SX B w0 l g R Q hv Hs nv X b o S K d i n v w1)(hb:Below w1.heap.size w1 w2):SX B w0 l g R Q hv Hs nv X b o S K d i n v w2:=by
 obtain⟨S',sv',fv',er,e,hr,hA,hk⟩:=h
 exact⟨S',sv',fv',er,e,hr,hA.still hb,hk.below hb⟩
theorem Uy {B:Nat}{w0:World}{l:List Ob}{g Q b i gh n vc j:Nat}{hd:Int}{nv:Value}{Hs:List Int}{X:List MX}{o:ou}{nd:Nd}(hn:Hs.length=n)(hi:Hs[j]? = some hd)(v:Value)(w':World)(h:SX B w0 l g R Q (.slice (some ⟨gh,0,none⟩) n vc) Hs nv X b o S K d i nd v w'):wu g R Q gh j b (.slice (some ⟨gh,0,none⟩) n vc) hd o w':=by
 obtain⟨S',sv',fv',er,e,hr,hA,hk⟩:=h
 obtain⟨gh',e2,_,hc⟩:=jk hA hn j hd hi
 cases e2
 exact⟨bF hA,hc,hk⟩
def Vo (B:Nat)(w0:World)(l:List Ob)(g R Q gh n vc:Nat)(Hs:List Int)(S:Tr)(sv fv nv:Value)(X:List MX)(iv:Value)(wr:World):Prop :=
 ∃i:Nat,i≤n∧iv=.int .i64 (i:Int)∧All B w0 (kK g R Q (.slice (some ⟨gh,0,none⟩) n vc) (qC (ms X) i Hs) S sv fv nv X ++ l) wr
theorem QO (T:iP c S K d)(W:Tw ex E c S K M σ)(cl:∀p k,k∈K p→(E p↔E k)){i:Nat}{m:MN}{n:Nd}(hi:lv M i=some m)(hn:S.at (σ i)=some n){S':Tr}{er en:Int}{M':List MN}
  (ht:Q3 S K d (σ i) n S' er)(hm:JY M (fun i=>d (σ i)) i m M' en) :
  er=en∧∃K' dl,iP (c+1) S' K' d∧Tw ex E (c+1) S' K' M' σ∧(∀y,E y→S'.at y=S.at y∧K' y=K y)∧(∀p k,k∈K' p→(E p↔E k))∧S'.b=S.b∧S'.s=S.s∧S'.fl=(S.free ++ dl.map σ,S.slots.length)∧M'.length=M.length∧(∀j mj,lv M' j=some mj→(lv M j).isSome=true) ∧
   ((i=0∨m.par≠none)∧dl=[]∨(i≠0∧m.par=none)∧dl=dR (kM M) (128 - d (σ i)) i):=by
 have hpar:=W.parent T.lk hi hn
 have h7:en=7→(i=0∨m.par≠none):=fun e=>by
  cases hm with
  | no h=>exact h
  | yes _ _=>cases e
 rcases Q9 W T hi hn hm with ⟨rfl,rfl,h⟩ | ⟨rfl,h1,h2,T',W'⟩
 ·cases ht with
  | held _ =>
   refine⟨rfl,K,[],T.mono (ed c),W.mono (ed c),fun _ _=>⟨rfl,rfl⟩,cl,rfl,rfl,by simp [Tr.fl],rfl,fun j mj h=>by rw [h];rfl,.inl ⟨h7 rfl,rfl⟩⟩
  | ok a b=>rcases h with h | h;exact absurd a h;exact absurd h b
 ·cases ht with
  | held h=>rcases h with h | h;exact absurd h1 h;exact absurd h h2
  | ok _ _ =>
   have hw:=W.dR (128 - d (σ i)) i m hi
   have hE:=W.off i m hi
   have hnE:∀y∈dR K (128 - d (σ i)) (σ i),¬E y:=by
    have key:∀(f z:Nat),¬E z→∀y∈dR K f z,¬E y:=by
     intro f
     induction f with
     | zero=>intro z hz y hy;simp [dR] at hy;subst hy;exact hz
     | succ f ih =>
      intro z hz y hy
      rw [dR,bn] at hy
      rcases hy with rfl | hy
      ·exact hz
      ·obtain⟨k,hk,hy⟩:=bT.1 hy
       exact ih k (fun h=>hz ((cl z k hk).2 h)) y hy
    exact key _ _ hE
   have h0:σ i≠0:=fun e=>by
    obtain⟨n0,a,b⟩:=T.doc
    rw [e,a] at hn;cases hn;exact h2 b
   have F:=Bc T hn (Mc T.lk hn h1) h0
   obtain⟨e1,e2,_,e4,e5⟩:=zL S (dR K (128 - d (σ i)) (σ i))
   refine⟨rfl,_,dR (kM M) (128 - d (σ i)) i,T'.mono (ed c),W'.mono (ed c),fun y hy=>⟨?_,?_⟩,fun p k hk=>cl p k (pF hk).2,e1,e2,?_,?_,?_,?_⟩
   ·rw [vV F,ax (fun h=>hnE y h hy)]
   ·unfold rF;rw [ax (fun h=>hnE y h hy)]
   ·unfold Tr.fl;rw [e4,e5,hw]
   ·cases hm with
    | yes _ _=>unfold pX;rw [gQ]
   ·intro j mj hj
    cases hm with
    | yes _ _ =>
     rw [DY] at hj
     split at hj
     ·cases hj
     ·rw [hj];rfl
   ·cases hm with
    | yes a b=>exact .inr ⟨⟨a,b⟩,rfl⟩
theorem SA {B:Nat}{w0:World}{l:List Ob}{g Q gh hvc:Nat}{nv:Value}{X:List MX}{Hs:List Int}{o:ou}(T:CX ex E c x S K d (ms X) σ)(hA:All B w0 (kK g R Q (.slice (some ⟨gh,0,none⟩) X.length hvc) (qC (ms X) X.length Hs) S sv fv nv X ++ l) w)(hH:Hs=iZ S σ (ms X))(hk:o.k % 10=9)(hoff:lv (ms X) (o.iA (ms X).length)=none) :
  E8 ex E c x B w0 l g R Q S K d (ms X) σ o (.returned (.tuple #[.slice none 0 0,.bool true])) w:=by
 have hu:qC (ms X) X.length Hs=iZ S σ (ms X):=by
  rw [hH,← aY X]
  exact Dt rfl (fun i m h=>by rw [h];rfl) ⟨rfl,rfl⟩
 rw [hu] at hA
 exact⟨.slice none 0 0,true,S,K,d,X,σ,_,sv,fv,nv,[],[],[],rfl,hA.nil _ _,⟨T.ok.mono (ed c),T.tw.mono (ed c),T.cl,T.lim⟩,fun _=>⟨rfl,rfl⟩,rfl,rfl,fun _ _=>⟨rfl,rfl⟩,.off (by omega) (.inl hoff),⟨fun i m hi=>(by rw [yS (kH ⟨m,hi⟩)]),(by rw [jY];simp [EI])⟩,.inr ⟨hk,.inl ⟨fun ma h=>(by rw [hoff] at h;cases h),rfl⟩⟩⟩
theorem Sr {B:Nat}{w0:World}{l:List Ob}{g Q gh hvc:Nat}{nv' sv' fv':Value}{X X':List MX}{Hs:List Int}{o:ou}{S':Tr}{m:MN}{en:Int}(T:CX ex E c x S K d (ms X) σ)(hA:All B w0 (kK g R Q (.slice (some ⟨gh,0,none⟩) X.length hvc) (qC (ms X') X.length Hs) S' sv' fv' nv' X' ++ l) w)(hH:Hs=iZ S σ (ms X))(hk:o.k % 10=9)(hm:lv (ms X) (o.iA X.length)=some m)(hl:X'.length=X.length)
  (hb:∃K' dl,iP (c+1) S' K' d∧Tw ex E (c+1) S' K' (ms X') σ∧(∀y,E y→S'.at y=S.at y∧K' y=K y)∧(∀p k,k∈K' p→(E p↔E k))∧S'.b=S.b∧S'.s=S.s∧S'.fl=(S.free ++ dl.map σ,S.slots.length)∧(ms X').length=(ms X).length∧(∀j mj,lv (ms X') j=some mj→(lv (ms X) j).isSome=true) ∧
   ((o.iA X.length=0∨m.par≠none)∧dl=[]∨(o.iA X.length≠0∧m.par=none)∧dl=dR (kM (ms X)) (128 - d (σ (o.iA X.length))) (o.iA X.length)))(hmd:JY (ms X) (fun i=>d (σ i)) (o.iA X.length) m (ms X') en) :
  E8 ex E c x B w0 l g R Q S K d (ms X) σ o (.returned (.tuple #[.slice none 0 0,.bool true])) w:=by
 obtain⟨K',dl,h1,h2,h3,h4,h5,h6,h7,h8,h9,h10⟩:=hb
 have hu:qC (ms X') X.length Hs=iZ S' σ (ms X'):=by
  rw [hH,← aY X]
  exact Dt h8 h9 ⟨h5,h6⟩
 rw [hu] at hA
 have e2:S'.slots.length=S.slots.length:=bW Prod.snd h7
 refine⟨.slice none 0 0,true,S',K',d,X',σ,_,sv',fv',nv',[],[],dl,rfl,hA.nil _ _,⟨h1,h2,h4,by have:=T.lim;omega⟩,fun _=>⟨rfl,rfl⟩,h5,h6,h3,.dro m _ en hk (by rw [aY];exact hm) (by rw [aY];exact hmd),⟨fun i mi hi=>?_,?_⟩,.inr ⟨hk,?_⟩⟩
 ·have:=kH ⟨mi,hi⟩
  rw [yS (by omega)]
 ·rw [h8,jY,h7];rfl
 ·rw [aY]
  rcases h10 with ⟨a,b⟩ | ⟨a,b⟩
  ·exact .inl ⟨fun ma h=>by rw [hm] at h;cases h;exact a,b⟩
  ·exact .inr ⟨⟨m,hm,a.1,a.2⟩,b⟩
theorem Rh {Z:List Nat→Prop}{X X':List MX}{Hs:List Int}{S':Tr}(hH:Hs=iZ S σ (ms X))(hb:∃K' dl,iP (c+1) S' K' d∧Tw ex E (c+1) S' K' (ms X') σ∧(∀y,E y→S'.at y=S.at y∧K' y=K y)∧(∀p k,k∈K' p→(E p↔E k))∧S'.b=S.b∧S'.s=S.s∧S'.fl=(S.free ++ dl.map σ,S.slots.length)∧(ms X').length=(ms X).length∧(∀j mj,lv (ms X') j=some mj→(lv (ms X) j).isSome=true)∧Z dl):qC (ms X') X.length Hs=iZ S' σ (ms X'):=by
 obtain⟨K',dl,h1,h2,h3,h4,h5,h6,h7,h8,h9,h10⟩:=hb
 rw [hH,← aY X]
 exact Dt h8 h9 ⟨h5,h6⟩
end
theorem Uj {B R:Nat}{S:Tr}{sv fv:Value}{w:World}(h:fZ B R S sv fv w)(kind:Int)(h2:kind≠2)(h3:kind≠3)(h4:kind≠4)(name data:List UInt8)(v:Value)(al:List jR) :
  Calls Tryz.prog 39 #[.pointer (some ⟨R,0,none⟩),.int .i64 kind,.string ⟨name.toArray⟩,.string ⟨data.toArray⟩,v] w (sW B R S sv fv w kind name data al):=by
 have HT:=ae h
 have HM:=ae (uX.kind (W:=w.heap.size) (S:=S) (name:=name) (data:=data) (al:=al) h2 h3 h4)
 have d2:(kind == 2)=false:=by simpa using h2
 have d3:(kind == 3)=false:=by simpa using h3
 have d4:(kind == 4)=false:=by simpa using h4
 clear h h2 h3 h4
 go_enter Tryz.func39,Tryz.ntmps39
 go_wp2_with fail
 go_ret2
 exact sW.same HT.out ((ak _ _).alloc (au _) _) HM.out
theorem MV {B R:Nat}{S:Tr}{sv fv:Value}{w:World}(h:fZ B R S sv fv w)(hT:Laid w)(hfr:∀i∈S.free,S.slots[i]? = some none)(hfl:S.free.length≤1000000)(hl:S.slots.length < 20000)(kind:Int)(name data:List UInt8)(hn:name.length≤1000)(hd:data.length≤1000)(v:Value)(al:List jR)(hv:Own w 91 2 v al.length (cu al))(hal:al.length≤100)(has:∀a∈al,a.1.length≤1000∧a.2.length≤1000) :
  Calls Tryz.prog 39 #[.pointer (some ⟨R,0,none⟩),.int .i64 kind,.string ⟨name.toArray⟩,.string ⟨data.toArray⟩,v] w (sW B R S sv fv w kind name data al):=by
 by_cases h2:kind=2
 ·subst h2;exact Uk h hT hfr hfl hl name data hn v al hv hal has
 by_cases h3:kind=3
 ·subst h3;exact Vb h hT hfr hfl hl name data hd v al
 by_cases h4:kind=4
 ·subst h4;exact Va h hT hfr hfl hl name data hd v al
 exact Uj h kind h2 h3 h4 name data v al
section
variable {ex : Prop} {E : Nat → Prop} {c x : Nat} {B : Nat} {w0 : World} {l : List Ob} {g R Q : Nat} {S S' : Tr} {K : Nat → List Nat} {d : Nat → Nat} {X X' : List MX} {σ : Nat → Nat} {o : ou}
theorem Oq {M:List MN}{m:MN}(hg:m.gone=false){s:Nat}(hb:S'.b=S.b)(hs:S'.s=S.s):iZ S' (BO M σ s) (M ++ [m])=iZ S σ M ++ [S.hd s]:=by
 have hh:∀i,S'.hd i=S.hd i:=fun i=>by unfold Tr.hd;rw [hb,hs]
 unfold iZ
 rw [aA,List.length_singleton,List.range_succ,ig]
 congr 1
 ·refine fM fun i hi=>?_
  have hi:=iw.1 hi
  rw [Hg M m hg,ax (show ¬i=M.length by omega),hh]
  unfold BO
  rw [ax (show ¬i=M.length by omega)]
 ·rw [List.map_singleton,Hg M m hg,aC rfl,hh]
  unfold BO
  rw [aC rfl];rfl
theorem P7 {W0:Nat}{kind h en:Int}{name data:List UInt8}{al:List jR}(ht:uX W0 S kind name data al S' h en)(h0:en=0):∃n,S'=S.add n:=by
 cases ht with
 | kind _ _ _=>omega
 | arg _ _=>omega
 | many _ _ _=>omega
 | el av _ _ _ _=>exact⟨_,rfl⟩
 | tx _=>exact⟨_,rfl⟩
theorem PY {M M':List MN}{kind en:Int}{name data:List UInt8}{al:List jR}(ht:Cf M kind name data al M' en)(h0:en=0):∃m,M'=M ++ [m]∧m.gone=false:=by
 cases ht with
 | arg _ _=>omega
 | el _ _=>exact⟨_,rfl,rfl⟩
 | tx _=>exact⟨_,rfl,rfl⟩
theorem zU (ho:o.Ok):(og o).length≤2∧∀a∈og o,a.1.length≤200∧a.2.length≤50:=by
 have h1:=ho.s
 have h2:=ho.t
 unfold og
 split
 ·refine⟨au _,fun a ha=>?_⟩
  rcases bn.1 ha with rfl | ha
  ·exact⟨by show o.t.length≤200;omega,by show o.s.length≤50;omega⟩
  ·rcases bn.1 ha with rfl | ha
   ·exact⟨by show 1≤200;omega,by show o.t.length≤50;omega⟩
   ·cases ha
 ·exact⟨aZ _,fun a ha=>by cases ha⟩
theorem Np (T:CX ex E c x S K d (ms X) σ)(hE:∀y,E y→(S.at y).isSome=true)(hX:X.length≤600)(hx:x≤2000)(ho:o.Ok)(hk:o.k % 10 < 3){W0:Nat}{h en er:Int}
  (hm:Cf (ms X) ((2+o.k % 10:Nat):Int) o.s o.t (og o) (ms X') en)(ht:uX W0 S ((2+o.k % 10:Nat):Int) o.s o.t (og o) S' h er) :
  er=en∧((en≠0∧h=0∧∀w hv sv fv nv,All B w0 (kK g R Q hv (iZ S σ (ms X)) S' sv fv nv X' ++ l) w→E8 ex E c x B w0 l g R Q S K d (ms X) σ o (.returned (.tuple #[.slice none 0 0,.bool true])) w) ∨
   (en=0∧h≠0∧∀w hv sv fv nv,All B w0 (kK g R Q hv (iZ S σ (ms X) ++ [h]) S' sv fv nv X' ++ l) w→E8 ex E c x B w0 l g R Q S K d (ms X) σ o (.returned (.tuple #[.slice none 0 0,.bool true])) w)):=by
 obtain⟨a1,a2⟩:=zU ho
 have hE0:¬E S.mV:=fun he=>by
  have h1:=hE _ he
  rw [(oL T.ok.fr T.ok.rZ (BQ 3 [] (.slice none 0 0) [] [])).no] at h1
  cases h1
 have hl:=T.lim
 rw [aY] at hl
 have hss:=ho.s
 have htt:=ho.t
 obtain⟨he,hcase⟩:=T.tw.make T.ok hm ht (by omega) (by omega) (by omega) a1 a2 hE0 (by rw [aY];omega) (by omega)
 refine⟨he,?_⟩
 rcases hcase with ⟨e1,rfl,hM,rfl⟩ | ⟨e0,hh,hlen,hT,hW⟩
 ·left
  refine⟨by omega,rfl,fun w hv sv fv nv hA=>?_⟩
  rw [← hM] at hA
  refine⟨.slice none 0 0,true,S',K,d,X',σ,hv,sv,fv,nv,[],[],[],rfl,hA.nil _ _,⟨?_,?_,T.cl,?_⟩,fun _=>⟨rfl,rfl⟩,rfl,rfl,fun y _=>⟨rfl,rfl⟩,.make _ en hk hm,⟨fun i m hi=>?_,?_⟩,.inl ⟨by omega,rfl⟩⟩
  ·exact T.ok.mono (ed c)
  ·rw [hM];exact T.tw.mono (ed c)
  ·rw [hM];exact T.lim
  ·rw [hM] at hi
   rw [yS (kH ⟨m,hi⟩)]
  ·rw [hM,jY];simp [EI]
 ·right
  obtain⟨n,rfl⟩:=P7 ht (by omega)
  obtain⟨m,hM,hg⟩:=PY hm e0
  have k:=oL T.ok.fr T.ok.rZ n
  have hn0:h≠0:=by
   have h1:=(hd_ok (S:=S.add n) hT.lk (i:=S.mV) (n:=n) (by rw [k.at_,aC rfl])).2
   rw [hh]
   have h2:(S.add n).hd S.mV=S.hd S.mV:=by unfold Tr.hd;rw [k.eb,k.es]
   omega
  refine⟨e0,hn0,fun w hv sv fv nv hA=>?_⟩
  have hHs:iZ S σ (ms X) ++ [h]=iZ (S.add n) (BO (ms X) σ S.mV) (ms X'):=by rw [hM,Oq hg k.eb k.es,hh]
  rw [hHs] at hA
  have hfl:=QU S n
  refine⟨.slice none 0 0,true,S.add n,K,EW d S.mV,X',BO (ms X) σ S.mV,hv,sv,fv,nv,[],[],[],rfl,hA.nil _ _,⟨hT.mono (ed c),hW.mono (ed c),T.cl,?_⟩,fun _=>⟨rfl,rfl⟩,k.eb,k.es,fun y hy=>⟨?_,rfl⟩,.make _ en hk hm,⟨fun i mi hi=>?_,?_⟩,.inl ⟨by omega,rfl⟩⟩
  ·have:=k.len
   rw [hlen,aY];omega
  ·rw [k.at_,ax (fun e=>hE0 (by rw [← e];exact hy))]
  ·have hi:=kH ⟨mi,hi⟩
   rw [hlen,rU]
   unfold BO yT
   by_cases e:i=(ms X).length
   ·rw [aC e,ax (by omega),e,jY];rfl
   ·rw [ax e,aC (by omega)]
  ·rw [hlen,rU,hfl]
   show _=((EI 0 (Iz S.fl)).1 ++ [],(EI 0 (Iz S.fl)).2)
   rw [aT];rfl
end
end Go.Proofs.YtfelmdkeaacfeaaGreatDoor.W
end
