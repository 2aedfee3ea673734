/- Texts joined: MinN Mcop DoA DoB. -/
import Derived.Test.YtfelmdkeaacfeaaGreatDoorTM32
import Derived.Test.YtfelmdkeaacfeaaGreatDoorTM28
import Derived.Test.YtfelmdkeaacfeaaGreatDoorTM31
import Derived.Test.YtfelmdkeaacfeaaGreatDoorTM20
import Derived.Test.YtfelmdkeaacfeaaGreatDoorTM25
import Derived.Test.YtfelmdkeaacfeaaGreatDoorTM29
set_option maxRecDepth 100000
set_option maxHeartbeats 40000000
set_option linter.unusedVariables false
set_option linter.unusedSimpArgs false
section
namespace Go.Proofs.YtfelmdkeaacfeaaGreatDoor.W
open Go.RowKit
theorem mins_no {Q g cap:Nat}{X:List MX}{D:Nat→Nat}{w:World}(h:MdAt Q (.slice (some ⟨g,0,none⟩) X.length cap) X w)(hW:MW (ms X) D){p c:Nat}{mc mp:MN}(hc:lv (ms X) c=some mc)(hp:lv (ms X) p=some mp)(o:Int)(hch:mchB (ms X) D p c mp mc=false) :
  Calls Tryz.prog 43 #[.pointer (some ⟨Q,0,none⟩),.int .i64 (p:Int),.int .i64 (c:Int),.int .i64 o] w fun e w'=>e=.returned (.tuple #[.slice none 0 0,.int .i64 10])∧w'=w:=by
 have HCh:=Lib.hid (mchild_any h.W hW p c hp hc)
 rw [hch] at HCh
 clear h hW hc hp hch
 go_enter Tryz.func43,Tryz.ntmps43
 go_wp2_with fail
 refine HCh.out.mono ?_
 rintro e w2 ⟨rfl,hw⟩
 rw [hw]
 clear hw
 go_wp2_with fail
 go_ret2
 exact⟨rfl,rfl⟩
theorem mins_other {Q g cap:Nat}{X:List MX}{D:Nat→Nat}{w:World}(h:MdAt Q (.slice (some ⟨g,0,none⟩) X.length cap) X w)(hW:MW (ms X) D){p c b:Nat}{mc mp mb:MN}(hc:lv (ms X) c=some mc)(hp:lv (ms X) p=some mp)(hb:lv (ms X) b=some mb)(hch:mchB (ms X) D p c mp mc=true)(hbp:mb.par≠some p) :
  Calls Tryz.prog 43 #[.pointer (some ⟨Q,0,none⟩),.int .i64 (p:Int),.int .i64 (c:Int),.int .i64 (b:Int)] w fun e w'=>e=.returned (.tuple #[.slice none 0 0,.int .i64 10])∧w'=w:=by
 have HCh:=Lib.hid (mchild_any h.W hW p c hp hc)
 rw [hch] at HCh
 have c0:=h.W.ptr
 have lb:=lv_lt hb
 obtain⟨_,c4,_⟩:=h.W.lvc hb
 have hne:pI mb.par≠(p:Int):=fun e=>by
  cases e2:mb.par with
  | none=>rw [e2] at e;have e:(-1:Int)=(p:Int):=e;omega
  | some q=>rw [e2] at e hbp;have e:(q:Int)=(p:Int):=e;exact hbp (by rw [show q=p by omega])
 have hbi:(b:Int) < (X.length:Int):=by omega
 have d1:(pI mb.par != (p:Int))=true:=by simpa using hne
 generalize pI mb.par=pp at *
 clear h hW hc hp hb hch hbp
 go_enter Tryz.func43,Tryz.ntmps43
 go_wp2_with fail
 refine HCh.out.mono ?_
 rintro e w2 ⟨rfl,hw⟩
 rw [hw]
 clear hw
 go_wp2_with fail
 go_ret2
 exact⟨rfl,rfl⟩
theorem mins_far {Q g cap:Nat}{X:List MX}{D:Nat→Nat}{w:World}(h:MdAt Q (.slice (some ⟨g,0,none⟩) X.length cap) X w)(hW:MW (ms X) D){p c:Nat}{mc mp:MN}(hc:lv (ms X) c=some mc)(hp:lv (ms X) p=some mp)(o:Option Nat)
  (ho:∀b,o=some b→∃mb,lv (ms X) b=some mb∧mb.par=some p)(hch:mchB (ms X) D p c mp mc=true)(hdep:128 < D p+hgt (kM (ms X)) (128 - D c) c) :
  Calls Tryz.prog 43 #[.pointer (some ⟨Q,0,none⟩),.int .i64 (p:Int),.int .i64 (c:Int),.int .i64 (pI o)] w fun e w'=>e=.returned (.tuple #[.slice none 0 0,.int .i64 5])∧w'=w:=by
 have HCh:=Lib.hid (mchild_any h.W hW p c hp hc)
 rw [hch] at HCh
 have HDp:=Lib.hid (mdepth_any h.W hW p hp)
 have HHt:=Lib.hid (mheight_any hW (128 - D c) c mc hc rfl w h.W)
 have hhl:=hgt_le (kM (ms X)) (128 - D c) c
 have hdl:=hW.low p mp hp
 have c0:=h.W.ptr
 generalize hgt (kM (ms X)) (128 - D c) c=hz at *
 generalize hdz:D p=dz at *
 have dd:decide ((128:Int) < (dz:Int)+(hz:Int))=true:=by simp;omega
 cases o with
 | none =>
  rw [show pI none=-1 from rfl]
  clear h hW hc hp hch ho
  go_enter Tryz.func43,Tryz.ntmps43
  go_wp2_with fail
  refine HCh.out.mono ?_
  rintro e w2 ⟨rfl,hw⟩
  rw [hw]
  clear hw
  go_wp2_with fail
  refine HDp.out.mono ?_
  rintro e w2 ⟨rfl,hw⟩
  rw [hw]
  clear hw
  go_wp2_with fail
  refine HHt.out.mono ?_
  rintro e w2 ⟨rfl,hw⟩
  rw [hw]
  clear hw
  go_wp2_with fail
  go_ret2
  exact⟨rfl,rfl⟩
 | some b =>
  obtain⟨mb,hb,hbp⟩:=ho b rfl
  have lb:=lv_lt hb
  obtain⟨_,c4,_⟩:=h.W.lvc hb
  rw [hbp,show pI (some p)=(p:Int) from rfl] at c4
  have hbi:(b:Int) < (X.length:Int):=by omega
  rw [show pI (some b)=(b:Int) from rfl]
  clear h hW hc hp hch ho hb
  go_enter Tryz.func43,Tryz.ntmps43
  go_wp2_with fail
  refine HCh.out.mono ?_
  rintro e w2 ⟨rfl,hw⟩
  rw [hw]
  clear hw
  go_wp2_with fail
  refine HDp.out.mono ?_
  rintro e w2 ⟨rfl,hw⟩
  rw [hw]
  clear hw
  go_wp2_with fail
  refine HHt.out.mono ?_
  rintro e w2 ⟨rfl,hw⟩
  rw [hw]
  clear hw
  go_wp2_with fail
  go_ret2
  exact⟨rfl,rfl⟩
def CopOut (M0:List MN)(deep:Bool)(f i:Nat)(m:MN)(Q g cap:Nat)(X:List MX)(w:World)(e:Ending)(w':World):Prop :=
 ∃X' g' cap' en,e=.returned (.int .i64 en)∧((i=0∧en=10∧ms X'=ms X)∨(i≠0∧en=0∧ms X'=ms X ++ (if deep then(wlk (kM M0) f i).map (cpN M0 (psi (wlk (kM M0) f i) X.length) i none) else [⟨m.kind,m.name,m.attrs,m.data,none,[],false⟩]))) ∧
  MdOut Q (.slice (some ⟨g,0,none⟩) X.length cap) X w (.slice (some ⟨g',0,none⟩) X'.length cap') X' w'
theorem mCopy_any {D:Nat→Nat}(deep:Bool){f i:Nat}{m:MN}{Q g cap:Nat}{X:List MX}{w:World}(hW:MW (ms X) D)(hN:∀f i m,lv (ms X) i=some m→(wlk (kM (ms X)) f i).Nodup)(hN2:∀f i m,lv (ms X) i=some m→(wlk (kM (ms X)) f i).length≤10000)(ha:∀i m,lv (ms X) i=some m→m.attrs.length≤10000)
  (hi:lv (ms X) i=some m)(hf:128 - D i=f)(h:MdAt Q (.slice (some ⟨g,0,none⟩) X.length cap) X w)(hl:X.length≤9000) :
  Calls Tryz.prog 101 #[.pointer (some ⟨Q,0,none⟩),.int .i64 (i:Int),.bool deep] w (CopOut (ms X) deep f i m Q g cap X w):=by
 have HC:=Lib.hid (mcopy_any hW hN hN2 ha deep f i m hi hf Q g cap X w none h (fun x y hxy=>(lv_at hxy).1) (by rw [ms_len];exact Nat.le_refl _) (by
  have:=hN2 f i m hi
  split <;> omega) (fun p hp=>by cases hp))
 have H0:=Lib.hid h
 have hil:=lv_live ⟨m,hi⟩
 clear h hi hW
 rw [show pI none=-1 from rfl] at HC
 by_cases hi0:i=0
 ·subst hi0
  clear HC
  go_enter Tryz.func101,Tryz.ntmps101
  go_wp2_with fail
  go_ret
  exact⟨X,g,cap,10,rfl,.inl ⟨rfl,rfl,rfl⟩,MdOut.refl H0.out (Below.refl _ _)⟩
 ·have hb:((i:Int) == 0)=false:=by simp;omega
  go_enter Tryz.func101,Tryz.ntmps101
  go_wp2_with fail
  refine HC.out.mono ?_
  rintro e w1 ⟨X',g',cap',hms,⟨v,rfl⟩,_,hM⟩
  have HMs:=Lib.hid hms
  have HM:=Lib.hid hM
  clear hms hM
  go_wp2_with fail
  go_ret
  exact⟨X',g',cap',0,rfl,.inr ⟨hi0,rfl,HMs.out⟩,HM.out⟩
structure OpV where
 k:Nat
 a:Nat
 b:Nat
 c:Nat
 s:List UInt8
 t:List UInt8
 n:Int
 kk:Int
structure OpV.Ok (o:OpV):Prop where
 k:o.k≤255
 a:o.a≤255
 b:o.b≤255
 c:o.c≤255
 s:o.s.length≤40
 t:o.t.length≤40
 n:-128≤o.n∧o.n≤127
 kk:-128≤o.kk∧o.kk≤127
def opC (o:OpV):List Value:=[.int .u8 o.k,.int .u8 o.a,.int .u8 o.b,.int .u8 o.c,.string ⟨o.s.toArray⟩,.string ⟨o.t.toArray⟩,.int .i8 o.n,.int .i8 o.kk]
def OpV.iA (o:OpV)(n:Nat):Nat:=o.a % n
def OpV.iB (o:OpV)(n:Nat):Nat:=o.b % n
def OpV.iC (o:OpV)(n:Nat):Option Nat:=if o.c % (n+1)=0 then none else some (o.c % (n+1) - 1)
theorem iC_int (o:OpV)(n:Nat):pI (o.iC n)=((o.c % (n+1):Nat):Int) - 1:=by
 unfold OpV.iC
 split
 ·rename_i h;rw [h];rfl
 ·rename_i h;show((o.c % (n+1) - 1:Nat):Int)=_;omega
theorem iC_lt {o:OpV}{n q:Nat}(h:o.iC n=some q):q < n:=by
 unfold OpV.iC at h
 split at h
 ·cases h
 ·have:=Nat.mod_lt o.c (show 0 < n+1 by omega)
  cases h;omega
def attO (o:OpV):List Atr:=if 0 < o.n then [(o.t,o.s),([107],o.t)] else []
inductive MInsA (M:List MN) (D:Nat→Nat) (p c:Nat) (o:Option Nat) (mp mc:MN):List MN→List Rc→Int→Prop
 | no (h:mchB M D p c mp mc=false):MInsA M D p c o mp mc M [] 10
 | other (b:Nat) (mb:MN) (h:mchB M D p c mp mc=true) (e:o=some b) (hb:lv M b=some mb) (hp:mb.par≠some p):MInsA M D p c o mp mc M [] 10
 | far (h:mchB M D p c mp mc=true) (ho:∀b,o=some b→∃mb,lv M b=some mb∧mb.par=some p) (hd:128 < D p+hgt (kM M) (128 - D c) c):MInsA M D p c o mp mc M [] 5
 | ok (M':List MN) (rs:List Rc) (h:mchB M D p c mp mc=true) (ho:∀b,o=some b→∃mb,lv M b=some mb∧mb.par=some p) (hd:D p+hgt (kM M) (128 - D c) c≤128) (hm:MIns M p c o mc M' rs):MInsA M D p c o mp mc M' rs 0
inductive MCpy (M:List MN) (D:Nat→Nat) (deep:Bool) (i:Nat) (m:MN):List MN→Int→Prop
 | doc (h:i=0):MCpy M D deep i m M 10
 | deep (h:i≠0) (hd:deep=true):MCpy M D deep i m (M ++ (wlk (kM M) (128 - D i) i).map (cpN M (psi (wlk (kM M) (128 - D i) i) M.length) i none)) 0
 | flat (h:i≠0) (hd:deep=false):MCpy M D deep i m (M ++ [⟨m.kind,m.name,m.attrs,m.data,none,[],false⟩]) 0
inductive MStep (M:List MN) (D:Nat→Nat) (o:OpV):List MN→List Rc→Prop
 | make (M':List MN) (en:Int) (hk:o.k % 10 < 3) (hm:MMak M ((2+o.k % 10:Nat):Int) o.s o.t (attO o) M' en):MStep M D o M' []
 | off (hk:3≤o.k % 10) (h:lv M (o.iA M.length)=none∨(o.k % 10=3∧(lv M (o.iB M.length)=none∨∃q,o.iC M.length=some q∧lv M q=none))):MStep M D o M []
 | ins (ma mb:MN) (M':List MN) (rs:List Rc) (en:Int) (hk:o.k % 10=3) (ha:lv M (o.iA M.length)=some ma) (hb:lv M (o.iB M.length)=some mb) (hc:∀q,o.iC M.length=some q→∃mq,lv M q=some mq) (hm:MInsA M D (o.iB M.length) (o.iA M.length) (o.iC M.length) mb ma M' rs en):MStep M D o M' rs
 | rem (ma:MN) (M':List MN) (rs:List Rc) (en:Int) (hk:o.k % 10=4) (ha:lv M (o.iA M.length)=some ma) (hm:MRem M (o.iA M.length) ma M' rs en):MStep M D o M' rs
 | setA (ma:MN) (M':List MN) (rs:List Rc) (en:Int) (hk:o.k % 10=5) (ha:lv M (o.iA M.length)=some ma) (hm:MSet M (o.iA M.length) ma o.s o.t M' rs en):MStep M D o M' rs
 | drpA (ma:MN) (M':List MN) (rs:List Rc) (en:Int) (hk:o.k % 10=6) (ha:lv M (o.iA M.length)=some ma) (hm:MDrp M (o.iA M.length) ma o.s M' rs en):MStep M D o M' rs
 | rep (ma:MN) (M':List MN) (rs:List Rc) (en:Int) (hk:o.k % 10=7) (ha:lv M (o.iA M.length)=some ma) (hm:MRep M (o.iA M.length) ma o.n o.kk o.t M' rs en):MStep M D o M' rs
 | cpy (ma:MN) (M':List MN) (en:Int) (hk:o.k % 10=8) (ha:lv M (o.iA M.length)=some ma) (hm:MCpy M D (decide (0 < o.n)) (o.iA M.length) ma M' en):MStep M D o M' []
 | dro (ma:MN) (M':List MN) (en:Int) (hk:o.k % 10=9) (ha:lv M (o.iA M.length)=some ma) (hm:MDro M D (o.iA M.length) ma M' en):MStep M D o M' []
def FlStep (M M':List MN)(σ : Nat→Nat)(fl:List Nat×Nat)(l:List Nat)(σ':Nat→Nat)(fl':List Nat×Nat):Prop :=
 (∀i m,lv M' i=some m→σ' i=sExt M.length σ (nxS (M'.length - M.length) fl) i)∧fl'=((nxN (M'.length - M.length) fl).1 ++ l.map σ,(nxN (M'.length - M.length) fl).2)
def dropsM (M:List MN)(D:Nat→Nat)(o:OpV)(l:List Nat):Prop :=
 (o.k % 10≠9∧l=[])∨(o.k % 10=9∧((∀ma,lv M (o.iA M.length)=some ma→o.iA M.length=0∨ma.par≠none)∧l=[]∨(∃ma,lv M (o.iA M.length)=some ma∧o.iA M.length≠0∧ma.par=none)∧l=wlk (kM M) (128 - D (o.iA M.length)) (o.iA M.length)))
def DoR (ex:Prop)(E:Nat→Prop)(c x:Nat)(B:Nat)(w0:World)(l:List Ob)(g R Q:Nat)(S:Tr)(K:Nat→List Nat)(d:Nat→Nat)(M:List MN)(σ : Nat→Nat)(o:OpV)(e:Ending)(w':World):Prop :=
 ∃(v:Value) (ok:Bool) (S':Tr) (K':Nat→List Nat) (d':Nat→Nat) (X':List MX) (σ':Nat→Nat) (hv' sv' fv' nv':Value) (ts rs:List Rc) (dl:List Nat),e=.returned (.tuple #[v,.bool ok]) ∧
  All B w0 (rl v ts :: (twL g R Q hv' (hsOf S' σ' (ms X')) S' sv' fv' nv' X' ++ l)) w'∧TwS ex E (c+1) x S' K' d' (ms X') σ'∧(ex→ok=true∧ts=rs.map (trR S σ))∧S'.b=S.b∧S'.s=S.s∧(∀y,E y→S'.at y=S.at y∧K' y=K y) ∧
  MStep M (fun i=>d (σ i)) o (ms X') rs∧FlStep M (ms X') σ S.fl dl σ' S'.fl∧dropsM M (fun i=>d (σ i)) o dl
structure DoI (S:Tr) (X:List MX):Prop where
 pos:0 < X.length
 sl:S.slots.length≤3000
 fr:S.free.length≤3000
theorem doI_of {ex:Prop}{E:Nat→Prop}{c x:Nat}{B:Nat}{w0 w:World}{l:List Ob}{g R Q:Nat}{hv sv fv nv:Value}{S:Tr}{K:Nat→List Nat}{d:Nat→Nat}{X:List MX}{σ : Nat→Nat}{o:OpV}
  (h:All B w0 (twL g R Q hv (hsOf S σ (ms X)) S sv fv nv X ++ l) w)(T:TwS ex E c x S K d (ms X) σ)(hX:X.length≤600)(hx:x≤2000)(ho:o.Ok):DoI S X:=by
 have h1:=T.lim
 have h2:=T.ok.freel
 rw [ms_len] at h1
 obtain⟨_,m,hm⟩:=T.tw.zero
 have h3:=lv_live ⟨m,hm⟩
 rw [ms_len] at h3
 exact⟨by omega,by omega,by omega⟩
theorem wrap_iC (o:OpV){n:Nat}(hn:n≤1000000):wrap64 ((o.c:Int) % ((n:Int)+1) - 1)=pI (o.iC n):=by
 rw [iC_int]
 have h:(o.c:Int) % ((n:Int)+1)=((o.c % (n+1):Nat):Int):=rfl
 have:=Nat.mod_lt o.c (show 0 < n+1 by omega)
 rw [h]
 unfold wrap64
 omega
theorem hasT {B:Nat}{w0 w:World}{l:List Ob}{g R Q:Nat}{hv sv fv nv:Value}{S:Tr}{X:List MX}{Hs:List Int}(h:All B w0 (twL g R Q hv Hs S sv fv nv X ++ l) w)(i:Nat)(hi:i≤1000000)(hX:0 < X.length∧X.length≤1000000 ) :
  Calls Tryz.prog 20 #[.pointer (some ⟨Q,0,none⟩),.int .i64 (i:Int)] w fun e w'=>e=.returned (.bool (lv (ms X) i).isSome)∧w'=w:=by
 have hm:=tw_md h
 obtain⟨gm,cap,rfl⟩:=hm.W.shape hX.1
 exact has_any hm.W i hi hX.2
theorem tw_hcell {B:Nat}{w0 w:World}{l:List Ob}{g R Q:Nat}{sv fv nv:Value}{S:Tr}{Hs:List Int}{X:List MX}{va:Option Addr}{vc n:Nat}(h:All B w0 (twL g R Q (.slice va n vc) Hs S sv fv nv X ++ l) w)(hn:Hs.length=n)(i:Nat)(hd:Int)(hi:Hs[i]? = some hd):∃gh,va=some ⟨gh,0,none⟩∧gh < w.heap.size∧w.cell? ⟨gh,i,none⟩=some (.int .i64 hd):=by
 have ho:=tw_hs h
 obtain⟨gv,cp,e,hc⟩:=own_int (show w.ownsRow 0 3 1 (.slice va n vc) Hs.length (hC Hs) from own_low ho (Nat.zero_le _)) hi
 simp only [Value.slice.injEq] at e
 exact⟨gv,e.1,World.block_lt_of_cell? w _ hc,hc⟩
end Go.Proofs.YtfelmdkeaacfeaaGreatDoor.W
end
