/- Texts joined: DoA DoB Rem MutA. -/
import Derived.Test.YtfelmdkeaacfeaaGreatDoorTB1
import Derived.Test.YtfelmdkeaacfeaaGreatDoorTB29
import Derived.Test.YtfelmdkeaacfeaaGreatDoorTB30
import Derived.Test.YtfelmdkeaacfeaaGreatDoorTB18
import Derived.Test.YtfelmdkeaacfeaaGreatDoorTB23
import Derived.Test.YtfelmdkeaacfeaaGreatDoorTB27
import Derived.Test.YtfelmdkeaacfeaaGreatDoorTB28
import Derived.Test.YtfelmdkeaacfeaaGreatDoorTB8
import Derived.Test.YtfelmdkeaacfeaaGreatDoorTB15
import Derived.Test.YtfelmdkeaacfeaaGreatDoorTB20
import Derived.Test.YtfelmdkeaacfeaaGreatDoorTB11
set_option maxRecDepth 100000
set_option maxHeartbeats 40000000
set_option linter.unusedVariables false
set_option linter.unusedSimpArgs false
section
namespace Go.Proofs.YtfelmdkeaacfeaaGreatDoor.W
open Go.RowKit
structure ou where
 k:Nat
 a:Nat
 b:Nat
 c:Nat
 s:List UInt8
 t:List UInt8
 n:Int
 kk:Int
structure ou.Ok (o:ou):Prop where
 k:o.k≤255
 a:o.a≤255
 b:o.b≤255
 c:o.c≤255
 s:o.s.length≤40
 t:o.t.length≤40
 n:-128≤o.n∧o.n≤127
 kk:-128≤o.kk∧o.kk≤127
def opC (o:ou):List Value:=[.int .u8 o.k,.int .u8 o.a,.int .u8 o.b,.int .u8 o.c,.string ⟨o.s.toArray⟩,.string ⟨o.t.toArray⟩,.int .i8 o.n,.int .i8 o.kk]
def ou.iA (o:ou)(n:Nat):Nat:=o.a % n
def ou.iB (o:ou)(n:Nat):Nat:=o.b % n
def ou.iC (o:ou)(n:Nat):Option Nat:=if o.c % (n+1)=0 then none else some (o.c % (n+1) - 1)
theorem Ur (o:ou)(n:Nat):pI (o.iC n)=((o.c % (n+1):Nat):Int) - 1:=by
 unfold ou.iC
 split
 ·rename_i h;rw [h];rfl
 ·rename_i h;show((o.c % (n+1) - 1:Nat):Int)=_;omega
theorem Tq {o:ou}{n q:Nat}(h:o.iC n=some q):q < n:=by
 unfold ou.iC at h
 split at h
 ·cases h
 ·have:=jr o.c (show 0 < n+1 by omega)
  cases h;omega
def og (o:ou):List jR:=if 0 < o.n then [(o.t,o.s),([107],o.t)] else []
inductive zX (M:List MN) (D:Nat→Nat) (p c:Nat) (o:Option Nat) (mp mc:MN):List MN→List Rc→Int→Prop
 | no (h:zt M D p c mp mc=false):zX M D p c o mp mc M [] 10
 | other (b:Nat) (mb:MN) (h:zt M D p c mp mc=true) (e:o=some b) (hb:lv M b=some mb) (hp:mb.par≠some p):zX M D p c o mp mc M [] 10
 | far (h:zt M D p c mp mc=true) (ho:∀b,o=some b→∃mb,lv M b=some mb∧mb.par=some p) (hd:128 < D p+hgt (kM M) (128 - D c) c):zX M D p c o mp mc M [] 5
 | ok (M':List MN) (rs:List Rc) (h:zt M D p c mp mc=true) (ho:∀b,o=some b→∃mb,lv M b=some mb∧mb.par=some p) (hd:D p+hgt (kM M) (128 - D c) c≤128) (hm:JX M p c o mc M' rs):zX M D p c o mp mc M' rs 0
inductive L8 (M:List MN) (D:Nat→Nat) (deep:Bool) (i:Nat) (m:MN):List MN→Int→Prop
 | doc (h:i=0):L8 M D deep i m M 10
 | deep (h:i≠0) (hd:deep=true):L8 M D deep i m (M ++ (dR (kM M) (128 - D i) i).map (OW M (vM (dR (kM M) (128 - D i) i) M.length) i none)) 0
 | flat (h:i≠0) (hd:deep=false):L8 M D deep i m (M ++ [⟨m.kind,m.name,m.attrs,m.data,none,[],false⟩]) 0
inductive uP (M:List MN) (D:Nat→Nat) (o:ou):List MN→List Rc→Prop
 | make (M':List MN) (en:Int) (hk:o.k % 10 < 3) (hm:Cf M ((2+o.k % 10:Nat):Int) o.s o.t (og o) M' en):uP M D o M' []
 | off (hk:3≤o.k % 10) (h:lv M (o.iA M.length)=none∨(o.k % 10=3∧(lv M (o.iB M.length)=none∨∃q,o.iC M.length=some q∧lv M q=none))):uP M D o M []
 | ins (ma mb:MN) (M':List MN) (rs:List Rc) (en:Int) (hk:o.k % 10=3) (ha:lv M (o.iA M.length)=some ma) (hb:lv M (o.iB M.length)=some mb) (hc:∀q,o.iC M.length=some q→∃mq,lv M q=some mq) (hm:zX M D (o.iB M.length) (o.iA M.length) (o.iC M.length) mb ma M' rs en):uP M D o M' rs
 | rem (ma:MN) (M':List MN) (rs:List Rc) (en:Int) (hk:o.k % 10=4) (ha:lv M (o.iA M.length)=some ma) (hm:JW M (o.iA M.length) ma M' rs en):uP M D o M' rs
 | Rk (ma:MN) (M':List MN) (rs:List Rc) (en:Int) (hk:o.k % 10=5) (ha:lv M (o.iA M.length)=some ma) (hm:zW M (o.iA M.length) ma o.s o.t M' rs en):uP M D o M' rs
 | Sl (ma:MN) (M':List MN) (rs:List Rc) (en:Int) (hk:o.k % 10=6) (ha:lv M (o.iA M.length)=some ma) (hm:Ci M (o.iA M.length) ma o.s M' rs en):uP M D o M' rs
 | rep (ma:MN) (M':List MN) (rs:List Rc) (en:Int) (hk:o.k % 10=7) (ha:lv M (o.iA M.length)=some ma) (hm:Ce M (o.iA M.length) ma o.n o.kk o.t M' rs en):uP M D o M' rs
 | cpy (ma:MN) (M':List MN) (en:Int) (hk:o.k % 10=8) (ha:lv M (o.iA M.length)=some ma) (hm:L8 M D (decide (0 < o.n)) (o.iA M.length) ma M' en):uP M D o M' []
 | dro (ma:MN) (M':List MN) (en:Int) (hk:o.k % 10=9) (ha:lv M (o.iA M.length)=some ma) (hm:JY M D (o.iA M.length) ma M' en):uP M D o M' []
def UQ (M M':List MN)(σ : Nat→Nat)(fl:List Nat×Nat)(l:List Nat)(σ':Nat→Nat)(fl':List Nat×Nat):Prop :=
 (∀i m,lv M' i=some m→σ' i=yT M.length σ (Jf (M'.length - M.length) fl) i)∧fl'=((EI (M'.length - M.length) fl).1 ++ l.map σ,(EI (M'.length - M.length) fl).2)
def Ux (M:List MN)(D:Nat→Nat)(o:ou)(l:List Nat):Prop :=
 (o.k % 10≠9∧l=[])∨(o.k % 10=9∧((∀ma,lv M (o.iA M.length)=some ma→o.iA M.length=0∨ma.par≠none)∧l=[]∨(∃ma,lv M (o.iA M.length)=some ma∧o.iA M.length≠0∧ma.par=none)∧l=dR (kM M) (128 - D (o.iA M.length)) (o.iA M.length)))
def E8 (ex:Prop)(E:Nat→Prop)(c x:Nat)(B:Nat)(w0:World)(l:List Ob)(g R Q:Nat)(S:Tr)(K:Nat→List Nat)(d:Nat→Nat)(M:List MN)(σ : Nat→Nat)(o:ou)(e:Ending)(w':World):Prop :=
 ∃(v:Value) (ok:Bool) (S':Tr) (K':Nat→List Nat) (d':Nat→Nat) (X':List MX) (σ':Nat→Nat) (hv' sv' fv' nv':Value) (ts rs:List Rc) (dl:List Nat),e=.returned (.tuple #[v,.bool ok]) ∧
  All B w0 (rl v ts :: (kK g R Q hv' (iZ S' σ' (ms X')) S' sv' fv' nv' X' ++ l)) w'∧CX ex E (c+1) x S' K' d' (ms X') σ'∧(ex→ok=true∧ts=rs.map (vC S σ))∧S'.b=S.b∧S'.s=S.s∧(∀y,E y→S'.at y=S.at y∧K' y=K y) ∧
  uP M (fun i=>d (σ i)) o (ms X') rs∧UQ M (ms X') σ S.fl dl σ' S'.fl∧Ux M (fun i=>d (σ i)) o dl
structure WJ (S:Tr) (X:List MX):Prop where
 pos:0 < X.length
 sl:S.slots.length≤3000
 fr:S.free.length≤3000
theorem uD {ex:Prop}{E:Nat→Prop}{c x:Nat}{B:Nat}{w0 w:World}{l:List Ob}{g R Q:Nat}{hv sv fv nv:Value}{S:Tr}{K:Nat→List Nat}{d:Nat→Nat}{X:List MX}{σ : Nat→Nat}{o:ou}
  (h:All B w0 (kK g R Q hv (iZ S σ (ms X)) S sv fv nv X ++ l) w)(T:CX ex E c x S K d (ms X) σ)(hX:X.length≤600)(hx:x≤2000)(ho:o.Ok):WJ S X:=by
 have h1:=T.lim
 have h2:=T.ok.Ju
 rw [aY] at h1
 obtain⟨_,m,hm⟩:=T.tw.zero
 have h3:=kH ⟨m,hm⟩
 rw [aY] at h3
 exact⟨by omega,by omega,by omega⟩
theorem ru (o:ou){n:Nat}(hn:n≤1000000):wrap64 ((o.c:Int) % ((n:Int)+1) - 1)=pI (o.iC n):=by
 rw [Ur]
 have h:(o.c:Int) % ((n:Int)+1)=((o.c % (n+1):Nat):Int):=rfl
 have:=jr o.c (show 0 < n+1 by omega)
 rw [h]
 unfold wrap64
 omega
theorem BV {B:Nat}{w0 w:World}{l:List Ob}{g R Q:Nat}{hv sv fv nv:Value}{S:Tr}{X:List MX}{Hs:List Int}(h:All B w0 (kK g R Q hv Hs S sv fv nv X ++ l) w)(i:Nat)(hi:i≤1000000)(hX:0 < X.length∧X.length≤1000000 ) :
  Calls Tryz.prog 20 #[.pointer (some ⟨Q,0,none⟩),.int .i64 (i:Int)] w fun e w'=>e=.returned (.bool (lv (ms X) i).isSome)∧w'=w:=by
 have hm:=lG h
 obtain⟨gm,cap,rfl⟩:=hm.W.shape hX.1
 exact RY hm.W i hi hX.2
theorem jk {B:Nat}{w0 w:World}{l:List Ob}{g R Q:Nat}{sv fv nv:Value}{S:Tr}{Hs:List Int}{X:List MX}{va:Option Addr}{vc n:Nat}(h:All B w0 (kK g R Q (.slice va n vc) Hs S sv fv nv X ++ l) w)(hn:Hs.length=n)(i:Nat)(hd:Int)(hi:Hs[i]? = some hd):∃gh,va=some ⟨gh,0,none⟩∧gh < w.heap.size∧w.cell? ⟨gh,i,none⟩=some (.int .i64 hd):=by
 have ho:=lL h
 obtain⟨gv,cp,e,hc⟩:=pO (show w.ownsRow 0 3 1 (.slice va n vc) Hs.length (hC Hs) from iD ho (aZ _)) hi
 simp only [bD] at e
 exact⟨gv,e.1,iG w _ hc,hc⟩
theorem TZ (w:World)(c:List Value){B:Nat}(hB:B≤w.heap.size)(hc:c.length=11):sG (w.alloc (.cells c.toArray 41)) B (.slice (some ⟨w.heap.size,0,none⟩) 1 1) [c]:=by
 obtain⟨h1,h2⟩:=jg (n:=1) (size:=11) (dD.new w c 41) (by omega) (by omega)
 refine⟨by simpa using h1,?_⟩
 rcases h2 with ⟨e,_⟩ | ⟨g',cap,cur,e,_,rest⟩
 ·cases e
 ·cases e;exact .inr ⟨w.heap.size,_,cur,rfl,hB,by simpa using rest⟩
theorem KG {B R g cap:Nat}{S:Tr}{fv:Value}{w:World}{K:Nat→List Nat}{d:Nat→Nat}(h:fZ B R S (.slice (some ⟨g,0,none⟩) S.slots.length cap) fv w)(hL:Lk S K d)(c:Nat)(nc:Nd)(hc:S.at c=some nc)(hk:nc.kind≠1)(hdet:∀q,c∉K q) :
  Calls Tryz.prog 15 #[.pointer (some ⟨R,0,none⟩),.int .i64 (S.hd c)] w fun e w'=>e=.returned (.tuple #[.slice none 0 0,.int .i64 0])∧Below w.heap.size w w':=by
 have HC:=ae (bV h (S.hd c) (hd_ok hL hc).1 (fV hL hc))
 have H0:=ae (fun wx (hb:Below w.heap.size w wx)=>bK (h.below hb) hc 0 (by omega))
 have H4:=ae (fun wx (hb:Below w.heap.size w wx)=>bK (h.below hb) hc 4 (by omega))
 simp only [jd,fQ,fP] at H0 H4
 rw [(hL.top c nc hc hdet).1] at H4
 have hk1:(nc.kind == 1)=false:=by simpa using hk
 clear h hL hc hdet
 go_enter Tryz.func15,Tryz.ntmps15
 go_wp2_with fail
 refine HC.out.mono ?_
 rintro e w1 ⟨rfl,hb1⟩
 have c0:=H0.out _ hb1
 have c4:=H4.out _ hb1
 go_wp2_with fail
 go_ret2
 exact⟨rfl,hb1⟩
theorem KH {B R g cap:Nat}{S:Tr}{fv:Value}{w:World}{K:Nat→List Nat}{d:Nat→Nat}(h:fZ B R S (.slice (some ⟨g,0,none⟩) S.slots.length cap) fv w)(hL:Lk S K d)(q i c:Nat)(nc:Nd)(hc:S.at c=some nc)(hk:nc.kind≠1)(hi:(K q)[i]? = some c) :
  Calls Tryz.prog 15 #[.pointer (some ⟨R,0,none⟩),.int .i64 (S.hd c)] w fun e w'=>∃S' v,yI S S' (K q) q i c∧e=.returned (.tuple #[v,.int .i64 0])∧sG w' w.heap.size v [recC 2 (S.hd q) (S.hd c) nc.prev nc.next i [] [] false 0 0] ∧
   fZ B R S' (.slice (some ⟨g,0,none⟩) S'.slots.length cap) fv w'∧dU (fun k=>k=g) w w':=by
 obtain⟨nq,hnq⟩:=aB.1 (hL.kin q c (ah hi)).1
 have hq0:¬S.hd q=0:=by have:=(hd_ok hL hnq).2;omega
 have hq1:(S.hd q == 0)=false:=by simpa using hq0
 have HC:=ae (bV h (S.hd c) (hd_ok hL hc).1 (fV hL hc))
 have H0:=ae (fun wx (hb:Below w.heap.size w wx)=>bK (h.below hb) hc 0 (by omega))
 have H4:=ae (fun wx (hb:Below w.heap.size w wx)=>bK (h.below hb) hc 4 (by omega))
 simp only [jd,fQ,fP] at H0 H4
 rw [(hL.kid q i c nc hi hc).1] at H4
 have HU:=ae (fun wx (hb:Below w.heap.size w wx)=>Du (h.below hb) hL q i c nc hi hc)
 have hk1:(nc.kind == 1)=false:=by simpa using hk
 clear h hL hc hi hnq
 go_enter Tryz.func15,Tryz.ntmps15
 go_wp2_with fail
 refine HC.out.mono ?_
 rintro e w1 ⟨rfl,hb1⟩
 have c0:=H0.out _ hb1
 have c4:=H4.out _ hb1
 go_wp2_with fail
 refine(HU.out _ hb1).mono ?_
 rintro e w7 ⟨S1,hcut,rfl,hT7,hC7⟩
 have HT7:=ae hT7
 have HC7:=ae hC7
 have hs7:=aQ hb1.size hC7.size
 clear hT7 hC7 HU c0 c4 H0 H4
 simp only [recC,dA]
 go_wp2_with fail
 go_ret2
 exact⟨S1,_,hcut,rfl,TZ w7 _ hs7 rfl,HT7.out.below ((ak _ w7).alloc (au _) _),((dU.of_below hb1).trans HC7.out (fun _ _ h=>h)).alloc _⟩
theorem Om {B R g cap:Nat}{S:Tr}{fv:Value}{w:World}{K:Nat→List Nat}{d:Nat→Nat}(h:fZ B R S (.slice (some ⟨g,0,none⟩) S.slots.length cap) fv w)(hL:Lk S K d)(p c:Nat)(o:Option Nat)(np nc:Nd)(hp:S.at p=some np)(hc:S.at c=some nc)(ho:∀b,o=some b→(S.at b).isSome=true)
  (hmay:nU S K d p c np nc=false) :
  Calls Tryz.prog 16 #[.pointer (some ⟨R,0,none⟩),.int .i64 (S.hd p),.int .i64 (S.hd c),.int .i64 (hO S o)] w fun e w'=>e=.returned (.tuple #[.slice none 0 0,.int .i64 10])∧Below w.heap.size w w':=by
 have HP:=ae (fun wx (hb:Below w.heap.size w wx)=>bV (h.below hb) (S.hd p) (hd_ok hL hp).1 (fV hL hp))
 have HC:=ae (fun wx (hb:Below w.heap.size w wx)=>bV (h.below hb) (S.hd c) (hd_ok hL hc).1 (fV hL hc))
 have HM:=ae (fun wx (hb:Below w.heap.size w wx)=>uk (h.below hb) hL p c np nc hp hc)
 rw [hmay] at HM
 cases o with
 | none =>
  rw [show hO S none=0 from rfl]
  clear h hL hp hc hmay ho
  go_enter Tryz.func16,Tryz.ntmps16
  go_wp2_with fail
  refine(HP.out _ (ak _ _)).mono ?_
  rintro e w1 ⟨rfl,hb1⟩
  go_wp2_with fail
  refine(HC.out _ hb1).mono ?_
  rintro e w2 ⟨rfl,hb2⟩
  have hB2:=aV hb1 hb2
  go_wp2_with fail
  refine(HM.out _ hB2).mono ?_
  rintro e w3 ⟨rfl,hb3⟩
  have hB3:=aV hB2 hb3
  go_wp2_with fail
  go_ret2
  exact⟨rfl,hB3⟩
 | some b =>
  obtain⟨nb,hb⟩:=aB.1 (ho b rfl)
  have HB:=ae (fun wx (hb':Below w.heap.size w wx)=>bV (h.below hb') (S.hd b) (hd_ok hL hb).1 (fV hL hb))
  have hb0:¬S.hd b=0:=by have:=(hd_ok hL hb).2;omega
  have hb1':(S.hd b == 0)=false:=by simpa using hb0
  rw [show hO S (some b)=S.hd b from rfl]
  clear h hL hp hc hmay ho hb
  go_enter Tryz.func16,Tryz.ntmps16
  go_wp2_with fail
  refine(HP.out _ (ak _ _)).mono ?_
  rintro e w1 ⟨rfl,hb1⟩
  go_wp2_with fail
  refine(HC.out _ hb1).mono ?_
  rintro e w2 ⟨rfl,hb2⟩
  have hB2:=aV hb1 hb2
  go_wp2_with fail
  refine(HB.out _ hB2).mono ?_
  rintro e w2' ⟨rfl,hb2'⟩
  have hB2':=aV hB2 hb2'
  go_wp2_with fail
  refine(HM.out _ hB2').mono ?_
  rintro e w3 ⟨rfl,hb3⟩
  have hB3:=aV hB2' hb3
  go_wp2_with fail
  go_ret2
  exact⟨rfl,hB3⟩
theorem Lr {B R g cap:Nat}{S:Tr}{fv:Value}{w:World}{K:Nat→List Nat}{d:Nat→Nat}(h:fZ B R S (.slice (some ⟨g,0,none⟩) S.slots.length cap) fv w)(hL:Lk S K d)(p c:Nat)(o:Option Nat)(np nc:Nd)(hp:S.at p=some np)(hc:S.at c=some nc)(ho:∀b,o=some b→b∈K p)
  (hmay:nU S K d p c np nc=true)(hdep:128 < d p+hgt K (128 - d c) c) :
  Calls Tryz.prog 16 #[.pointer (some ⟨R,0,none⟩),.int .i64 (S.hd p),.int .i64 (S.hd c),.int .i64 (hO S o)] w fun e w'=>e=.returned (.tuple #[.slice none 0 0,.int .i64 5])∧Below w.heap.size w w':=by
 cases o with
 | none=>exact Jq h hL p c np nc hp hc hmay hdep
 | some b =>
  have HP:=ae (fun wx (hb:Below w.heap.size w wx)=>bV (h.below hb) (S.hd p) (hd_ok hL hp).1 (fV hL hp))
  have HC:=ae (fun wx (hb:Below w.heap.size w wx)=>bV (h.below hb) (S.hd c) (hd_ok hL hc).1 (fV hL hc))
  have HM:=ae (fun wx (hb:Below w.heap.size w wx)=>uk (h.below hb) hL p c np nc hp hc)
  rw [hmay] at HM
  have HD:=ae (fun wx (hb:Below w.heap.size w wx)=>wX (h.below hb) hL p np hp)
  have HH:=ae (fun wx (hb:Below w.heap.size w wx)=>height_any hL (128 - d c) c nc hc rfl wx (h.below hb))
  have hhc:=ql K (128 - d c) c
  have hlow:=hL.low p
  have hbm:=ho b rfl
  obtain⟨nb,hb⟩:=aB.1 (hL.kin p b hbm).2
  obtain⟨jb,hjb⟩:=aI.1 hbm
  have hbp:nb.parent=S.hd p:=(hL.kid p jb b nb hjb hb).1
  have HB:=ae (fun wx (hb':Below w.heap.size w wx)=>bV (h.below hb') (S.hd b) (hd_ok hL hb).1 (fV hL hb))
  have HB4:=ae (fun wx (hb':Below w.heap.size w wx)=>bK (h.below hb') hb 4 (by omega))
  simp only [jd,hbp] at HB4
  have hb0:¬S.hd b=0:=by have:=(hd_ok hL hb).2;omega
  have hb1':(S.hd b == 0)=false:=by simpa using hb0
  rw [show hO S (some b)=S.hd b from rfl]
  clear h hL hp hc hmay ho hb hbp hjb hbm
  generalize hgt K (128 - d c) c=hc1 at *
  have d5:decide ((128:Int) < (d p:Int)+(hc1:Int))=true:=by simp;omega
  go_enter Tryz.func16,Tryz.ntmps16
  go_wp2_with fail
  refine(HP.out _ (ak _ _)).mono ?_
  rintro e w1 ⟨rfl,hb1⟩
  go_wp2_with fail
  refine(HC.out _ hb1).mono ?_
  rintro e w2 ⟨rfl,hb2⟩
  have hB2:=aV hb1 hb2
  go_wp2_with fail
  refine(HB.out _ hB2).mono ?_
  rintro e w2' ⟨rfl,hb2'⟩
  have hB2':=aV hB2 hb2'
  go_wp2_with fail
  refine(HM.out _ hB2').mono ?_
  rintro e w3 ⟨rfl,hb3⟩
  have hB3:=aV hB2' hb3
  go_wp2_with fail
  refine(HB.out _ hB3).mono ?_
  rintro e w3' ⟨rfl,hb3'⟩
  have hB3':=aV hB3 hb3'
  have cb4:=HB4.out _ hB3'
  simp only [fQ,fP] at cb4
  go_wp2_with fail
  clear cb4
  refine(HD.out _ hB3').mono ?_
  rintro e w4 ⟨rfl,hb4⟩
  have hB4:=aV hB3' hb4
  go_wp2_with fail
  refine(HH.out _ hB4).mono ?_
  rintro e w5 ⟨rfl,hb5⟩
  have hB5:=aV hB4 hb5
  go_wp2_with fail
  go_ret2
  exact⟨rfl,hB5⟩
section
variable {B : Nat} {w0 w : World} {R : Nat} {S : Tr} {sv fv : Value} {N : Nat} {l : List Ob} {K : Nat → List Nat} {d : Nat → Nat}
theorem CE {i:Nat}{n n':Nd}(hi:S.at i=some n){W:Nat}(hn:∀k,n'.av.ownBlock=some k→(n.av.ownBlock=some k∧(n'.attrs≠[]→n.attrs≠[]))∨W≤k)(k:Nat)(h:yR R (S.put i n') sv fv k):yR R S sv fv k∨W≤k:=by
 rcases h with h | h | h | ⟨x,m,hx,hne,hk⟩
 ·exact .inl (.inl h)
 ·exact .inl (.inr (.inl h))
 ·exact .inl (.inr (.inr (.inl h)))
 ·rw [dC hi] at hx
  by_cases e:x=i
  ·subst e
   rw [aC rfl] at hx
   cases hx
   rcases hn k hk with ⟨h1,h2⟩ | h1
   ·exact .inl (.inr (.inr (.inr ⟨x,n,hi,h2 hne,h1⟩)))
   ·exact .inr h1
  ·rw [ax e] at hx
   exact .inl (.inr (.inr (.inr ⟨x,m,hx,hne,hk⟩)))
end
end Go.Proofs.YtfelmdkeaacfeaaGreatDoor.W
end
