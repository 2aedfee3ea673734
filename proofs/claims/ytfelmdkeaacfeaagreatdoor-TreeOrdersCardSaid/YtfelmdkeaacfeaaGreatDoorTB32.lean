/- Texts joined: Non InO DoC DoD. -/
import Derived.Test.YtfelmdkeaacfeaaGreatDoorTB1
import Derived.Test.YtfelmdkeaacfeaaGreatDoorTB27
import Derived.Test.YtfelmdkeaacfeaaGreatDoorTB31
import Derived.Test.YtfelmdkeaacfeaaGreatDoorTB22
set_option maxRecDepth 100000
set_option maxHeartbeats 40000000
set_option linter.unusedVariables false
set_option linter.unusedSimpArgs false
section
namespace Go.Proofs.YtfelmdkeaacfeaaGreatDoor.W
open Go.RowKit
theorem I4 {B R:Nat}{S:Tr}{sv fv:Value}{w:World}(h:fZ B R S sv fv w)(hd:Int)(hh:uY hd)(hk:S.ix hd=none) :
  Calls Tryz.prog 15 #[.pointer (some ⟨R,0,none⟩),.int .i64 hd] w fun e w'=>e=.returned (.tuple #[.slice none 0 0,.int .i64 6])∧Below w.heap.size w w':=by
 have HA:=ae (qI h hd hh hk)
 clear h hk
 go_enter Tryz.func15,Tryz.ntmps15
 go_wp2_with fail
 refine HA.out.mono ?_
 rintro e w2 ⟨rfl,hb⟩
 go_wp2_with fail
 go_ret2
 exact⟨rfl,hb⟩
theorem KI {B R:Nat}{S:Tr}{sv fv:Value}{w:World}{K d}(h:fZ B R S sv fv w)(hL:Lk S K d)(i:Nat)(n:Nd)(hi:S.at i=some n)(hk:n.kind=1) :
  Calls Tryz.prog 15 #[.pointer (some ⟨R,0,none⟩),.int .i64 (S.hd i)] w fun e w'=>e=.returned (.tuple #[.slice none 0 0,.int .i64 10])∧Below w.heap.size w w':=by
 obtain⟨g,cap,rfl⟩:=fO h (by have:=iy hi;omega)
 have HA:=ae (bV h (S.hd i) (hd_ok hL hi).1 (fV hL hi))
 have HS:=ae (fun wx (hb:Below w.heap.size w wx)=>(show wx.cell? ⟨g,i*10+1,none⟩=some (.int .i64 n.kind) from dm (h.below hb) (dN hi) 1 (by omega)))
 clear h hi
 go_enter Tryz.func15,Tryz.ntmps15
 go_wp2_with fail
 refine HA.out.mono ?_
 rintro e w2 ⟨rfl,hb⟩
 have c1:=HS.out w2 hb
 have HB:=ae hb
 clear hb HA HS
 unfold na
 rw [hk] at c1
 clear hk
 go_wp2_with fail
 go_ret2
 exact⟨rfl,HB.out⟩
theorem GL {B R:Nat}{S:Tr}{sv fv:Value}{w:World}(h:fZ B R S sv fv w)(hd:Int)(hh:uY hd)(hk:S.ix hd=none)(a b:Int)(s:ByteArray) :
  Calls Tryz.prog 19 #[.pointer (some ⟨R,0,none⟩),.int .i64 hd,.int .i64 a,.int .i64 b,.string s] w fun e w'=>e=.returned (.tuple #[.slice none 0 0,.int .i64 6])∧Below w.heap.size w w':=by
 have HA:=ae (qI h hd hh hk)
 clear h hk
 go_enter Tryz.func19,Tryz.ntmps19
 go_wp2_with fail
 refine HA.out.mono ?_
 rintro e w2 ⟨rfl,hb⟩
 go_wp2_with fail
 go_ret2
 exact⟨rfl,hb⟩
theorem zO {B R:Nat}{S:Tr}{sv fv:Value}{w:World}(h:fZ B R S sv fv w)(hd:Int)(hh:uY hd)(hk:S.ix hd=none) :
  Calls Tryz.prog 58 #[.pointer (some ⟨R,0,none⟩),.int .i64 hd] w fun e w'=>e=.returned (.tuple #[.pointer none,.int .i64 6])∧Below w.heap.size w w':=by
 have HA:=ae (qI h hd hh hk)
 clear h hk
 go_enter Tryz.func58,Tryz.ntmps58
 go_wp2_with fail
 refine HA.out.mono ?_
 rintro e w2 ⟨rfl,hb⟩
 go_wp2_with fail
 go_ret2
 exact⟨rfl,hb⟩
theorem GG {B R:Nat}{S:Tr}{sv fv:Value}{w:World}(h:fZ B R S sv fv w)(hd:Int)(hh:uY hd)(hk:S.ix hd=none)(a b:ByteArray) :
  Calls Tryz.prog 18 #[.pointer (some ⟨R,0,none⟩),.int .i64 hd,.string a,.string b] w fun e w'=>e=.returned (.tuple #[.slice none 0 0,.int .i64 6])∧Below w.heap.size w w':=by
 have HA:=ae (zO h hd hh hk)
 clear h hk
 go_enter Tryz.func18,Tryz.ntmps18
 go_wp2_with fail
 refine HA.out.mono ?_
 rintro e w2 ⟨rfl,hb⟩
 go_wp2_with fail
 go_ret2
 exact⟨rfl,hb⟩
theorem EU {B R:Nat}{S:Tr}{sv fv:Value}{w:World}(h:fZ B R S sv fv w)(hd:Int)(hh:uY hd)(hk:S.ix hd=none)(a:ByteArray) :
  Calls Tryz.prog 17 #[.pointer (some ⟨R,0,none⟩),.int .i64 hd,.string a] w fun e w'=>e=.returned (.tuple #[.slice none 0 0,.int .i64 6])∧Below w.heap.size w w':=by
 have HA:=ae (zO h hd hh hk)
 clear h hk
 go_enter Tryz.func17,Tryz.ntmps17
 go_wp2_with fail
 refine HA.out.mono ?_
 rintro e w2 ⟨rfl,hb⟩
 go_wp2_with fail
 go_ret2
 exact⟨rfl,hb⟩
theorem zH {B R:Nat}{S:Tr}{sv fv:Value}{w:World}(h:fZ B R S sv fv w)(p c b:Int)(hh:uY p)(hk:S.ix p=none) :
  Calls Tryz.prog 16 #[.pointer (some ⟨R,0,none⟩),.int .i64 p,.int .i64 c,.int .i64 b] w fun e w'=>e=.returned (.tuple #[.slice none 0 0,.int .i64 6])∧Below w.heap.size w w':=by
 have HA:=ae (qI h p hh hk)
 clear h hk
 go_enter Tryz.func16,Tryz.ntmps16
 go_wp2_with fail
 refine HA.out.mono ?_
 rintro e w2 ⟨rfl,hb⟩
 go_wp2_with fail
 go_ret2
 exact⟨rfl,hb⟩
theorem Hw {B R g cap:Nat}{S:Tr}{fv:Value}{w:World}{K d}(h:fZ B R S (.slice (some ⟨g,0,none⟩) S.slots.length cap) fv w)(hL:Lk S K d)(p:Nat)(np:Nd)(hp:S.at p=some np)(c b:Int)(hh:uY c)(hk:S.ix c=none) :
  Calls Tryz.prog 16 #[.pointer (some ⟨R,0,none⟩),.int .i64 (S.hd p),.int .i64 c,.int .i64 b] w fun e w'=>e=.returned (.tuple #[.slice none 0 0,.int .i64 6])∧Below w.heap.size w w':=by
 have HP:=ae (bV h (S.hd p) (hd_ok hL hp).1 (fV hL hp))
 have HA:=ae (fun wx (hb:Below w.heap.size w wx)=>qI (h.below hb) c hh hk)
 clear h hk
 go_enter Tryz.func16,Tryz.ntmps16
 go_wp2_with fail
 refine HP.out.mono ?_
 rintro e w2 ⟨rfl,hb⟩
 go_wp2_with fail
 refine(HA.out w2 hb).mono ?_
 rintro e w3 ⟨rfl,hb3⟩
 go_wp2_with fail
 go_ret2
 exact⟨rfl,aV hb hb3⟩
theorem Hu {B R g cap:Nat}{S:Tr}{fv:Value}{w:World}{K d}(h:fZ B R S (.slice (some ⟨g,0,none⟩) S.slots.length cap) fv w)(hL:Lk S K d)(p c:Nat)(np nc:Nd)(hp:S.at p=some np)(hc:S.at c=some nc)(b:Int)(hb0:b≠0)(hh:uY b)(hk:S.ix b=none) :
  Calls Tryz.prog 16 #[.pointer (some ⟨R,0,none⟩),.int .i64 (S.hd p),.int .i64 (S.hd c),.int .i64 b] w fun e w'=>e=.returned (.tuple #[.slice none 0 0,.int .i64 6])∧Below w.heap.size w w':=by
 have HP:=ae (bV h (S.hd p) (hd_ok hL hp).1 (fV hL hp))
 have HC:=ae (fun wx (hb:Below w.heap.size w wx)=>bV (h.below hb) (S.hd c) (hd_ok hL hc).1 (fV hL hc))
 have HA:=ae (fun wx (hb:Below w.heap.size w wx)=>qI (h.below hb) b hh hk)
 have hd0:decide (b=0)=false:=by simp;exact hb0
 clear h hk
 go_enter Tryz.func16,Tryz.ntmps16
 go_wp2_with fail
 refine HP.out.mono ?_
 rintro e w2 ⟨rfl,hb⟩
 go_wp2_with fail
 refine(HC.out w2 hb).mono ?_
 rintro e w3 ⟨rfl,hb3⟩
 go_wp2_with fail
 refine(HA.out w3 (aV hb hb3)).mono ?_
 rintro e w4 ⟨rfl,hb4⟩
 go_wp2_with fail
 go_ret2
 exact⟨rfl,aV (aV hb hb3) hb4⟩
theorem Ht {B R g cap:Nat}{S:Tr}{fv:Value}{w:World}{K:Nat→List Nat}{d:Nat→Nat}(h:fZ B R S (.slice (some ⟨g,0,none⟩) S.slots.length cap) fv w)(hL:Lk S K d)(p c b:Nat)(np nc nb:Nd)(hp:S.at p=some np)(hc:S.at c=some nc)(hb:S.at b=some nb)
  (hmay:nU S K d p c np nc=true)(hnb:nb.parent≠S.hd p) :
  Calls Tryz.prog 16 #[.pointer (some ⟨R,0,none⟩),.int .i64 (S.hd p),.int .i64 (S.hd c),.int .i64 (S.hd b)] w fun e w'=>e=.returned (.tuple #[.slice none 0 0,.int .i64 10])∧Below w.heap.size w w':=by
 have HP:=ae (fun wx (hb:Below w.heap.size w wx)=>bV (h.below hb) (S.hd p) (hd_ok hL hp).1 (fV hL hp))
 have HC:=ae (fun wx (hb:Below w.heap.size w wx)=>bV (h.below hb) (S.hd c) (hd_ok hL hc).1 (fV hL hc))
 have HM:=ae (fun wx (hb:Below w.heap.size w wx)=>uk (h.below hb) hL p c np nc hp hc)
 rw [hmay] at HM
 have HB:=ae (fun wx (hb':Below w.heap.size w wx)=>bV (h.below hb') (S.hd b) (hd_ok hL hb).1 (fV hL hb))
 have HS:=ae (fun wx (hb':Below w.heap.size w wx)=>(show wx.cell? ⟨g,b*10+5,none⟩=some (.int .i64 nb.parent) from dm (h.below hb') (dN hb) 5 (by omega)))
 have hb0:¬S.hd b=0:=by have:=(hd_ok hL hb).2;omega
 have hb1':(S.hd b == 0)=false:=by simpa using hb0
 have hne:(nb.parent == S.hd p)=false:=by simpa using hnb
 have hx1:(S.hd b != 0)=true:=by simpa using hb0
 have hx2:(nb.parent != S.hd p)=true:=by simpa using hnb
 clear h hL hp hc hmay hb hnb
 go_enter Tryz.func16,Tryz.ntmps16
 go_wp2_with fail
 refine(HP.out _ (ak _ _)).mono ?_
 rintro e w1 ⟨rfl,hb1⟩
 go_wp2_with fail
 refine(HC.out _ hb1).mono ?_
 rintro e w2 ⟨rfl,hb2⟩
 have hB2:=aV hb1 hb2
 go_wp2_with fail
 refine(HB.out _ hB2).mono ?_
 rintro e w2' ⟨rfl,hb2'⟩
 have hB2':=aV hB2 hb2'
 go_wp2_with fail
 refine(HM.out _ hB2').mono ?_
 rintro e w3 ⟨rfl,hb3⟩
 have hB3:=aV hB2' hb3
 go_wp2_with fail
 refine(HB.out _ hB3).mono ?_
 rintro e w4 ⟨rfl,hb4⟩
 have HB4:=ae (aV hB3 hb4)
 have c5:=HS.out w4 HB4.out
 unfold na
 clear hb1 hb2 hB2 hb2' hB2' hb3 hB3 hb4 HP HC HM HB HS
 go_wp2_with fail
 go_ret2
 exact⟨rfl,HB4.out⟩
def TI (R:Nat)(S:Tr)(sv fv:Value)(w:World)(Res:Tr→List (List Value)→Int→Prop)(e:Ending)(w':World):Prop :=
 ∃S' sv' fv' v ls er,Res S' ls er∧e=.returned (.tuple #[v,.int .i64 er])∧sG w' w.heap.size v ls∧qh R S sv fv w S' sv' fv' w'∧∃ts:List Rc,ls=ts.map encR
theorem zi {R:Nat}{S:Tr}{sv fv:Value}{w w':World}{Res:Tr→List (List Value)→Int→Prop}(h:fZ 0 R S sv fv w)(hb:Below w.heap.size w w'){er:Int}(hr:Res S [] er):TI R S sv fv w Res (.returned (.tuple #[.slice none 0 0,.int .i64 er])) w' :=
 ⟨S,sv,fv,_,[],er,hr,rfl,aG _ _ _ _,qh.refl h hb,[],rfl⟩
theorem DK {R g cap:Nat}{S S':Tr}{fv v:Value}{w w':World}{Res:Tr→List (List Value)→Int→Prop}{ls:List (List Value)}{er:Int}(hr:Res S' ls er)(hrc:sG w' w.heap.size v ls)(hT:fZ 0 R S' (.slice (some ⟨g,0,none⟩) S'.slots.length cap) fv w')(hl:S'.slots.length=S.slots.length)(hC:dU (fun k=>k=g) w w')
  (hF:∀k,yR R S' (.slice (some ⟨g,0,none⟩) S.slots.length cap) fv k→yR R S (.slice (some ⟨g,0,none⟩) S.slots.length cap) fv k∨w.heap.size≤k)(hls:∃ts:List Rc,ls=ts.map encR):TI R S (.slice (some ⟨g,0,none⟩) S.slots.length cap) fv w Res (.returned (.tuple #[v,.int .i64 er])) w':=by
 rw [hl] at hT
 exact⟨S',_,fv,v,ls,er,hr,rfl,hrc,⟨hT,hC.mono (fun i _ e=>by subst e;exact .inr (.inl rfl)),hF⟩,hls⟩
section
variable {ex : Prop} {E : Nat → Prop} {c x : Nat} {S : Tr} {K : Nat → List Nat} {d : Nat → Nat} {M : List MN} {σ : Nat → Nat}
def wo (M:List MN)(v:Int):Prop:=∃o:Option Nat,v=pI o∧∀i,o=some i→∃m,lv M i=some m
def JS (M:List MN)(r:Rc):Prop:=wo M r.target∧wo M r.node∧wo M r.prev∧wo M r.next
theorem rG {v:Int}(h:wo M v)(hl:M.length≤100000):nI v∧hnd (iZ S σ M) v=hM S σ v:=by
 obtain⟨o,rfl,ho⟩:=h
 cases o with
 | none=>exact⟨⟨by decide,by decide⟩,rfl⟩
 | some i =>
  obtain⟨m,hm⟩:=ho i rfl
  have:=kH ⟨m,hm⟩
  refine⟨⟨by show(-100000:Int)≤(i:Int);omega,by show(i:Int)≤100000;omega⟩,?_⟩
  show hnd (iZ S σ M) (i:Int)=hM S σ (i:Int)
  rw [A8]
  unfold hnd
  rw [ax (by omega),Int.toNat_natCast,dV,A7 hm];rfl
theorem Tz {rs:List Rc}(h:∀r∈rs,JS M r)(hl:M.length≤100000):rs.map (Q4 (iZ S σ M))=rs.map (vC S σ):=fM fun r hr=>by
 obtain⟨h1,h2,h3,h4⟩:=h r hr
 unfold Q4 vC
 rw [(rG (S:=S) (σ:=σ) h1 hl).2,(rG (S:=S) (σ:=σ) h2 hl).2,(rG (S:=S) (σ:=σ) h3 hl).2,(rG (S:=S) (σ:=σ) h4 hl).2]
inductive Be (M:List MN) (S:Tr) (σ : Nat→Nat) (ts rs:List Rc):Prop
 | same (h:ts=rs.map (vC S σ)) (hr:∀r∈rs,JS M r)
 | len (h:ts.length≠rs.length)
 | old (i:Nat) (nm o1 o2:List UInt8) (h1 h2:Bool) (ht:ts=[vC S σ (Ae i nm o1 h1)]) (hr:rs=[Ae i nm o2 h2]) (hi:∃m,lv M i=some m) (hne:o1≠o2∨h1≠h2)
structure Both (ex:Prop) (E:Nat→Prop) (c:Nat) (S:Tr) (K:Nat→List Nat) (M:List MN) (σ : Nat→Nat) (S':Tr) (ls:List (List Value)) (er:Int) (M':List MN) (rs:List Rc) (en:Int):Prop where
 I7:∃ts:List Rc,ls=ts.map encR∧ts.length≤100∧(ex→er=en∧ts=rs.map (vC S σ))∧(er=en→Be M S σ ts rs)
 st:∃K' d',iP (c+1) S' K' d'∧Tw ex E (c+1) S' K' M' σ∧(∀y,E y→S'.at y=S.at y∧K' y=K y)∧(∀p k,k∈K' p→(E p↔E k))
 b:S'.b=S.b
 s:S'.s=S.s
 fl:S'.fl=S.fl
 len:M'.length=M.length
 live:∀i,(lv M' i).isSome=(lv M i).isSome
theorem Both.hs {S':Tr}{ls er M' rs en}(h:Both ex E c S K M σ S' ls er M' rs en):iZ S' σ M'=iZ S σ M:=by
 unfold iZ
 rw [h.len]
 refine fM fun i _=>?_
 rw [h.live i]
 unfold Tr.hd
 rw [h.b,h.s]
theorem qV (T:iP c S K d)(W:Tw ex E c S K M σ)(cl:∀p k,k∈K p→(E p↔E k))(en:Int):Both ex E c S K M σ S [] en M [] en :=
 ⟨⟨[],rfl,by simp,fun _=>⟨rfl,rfl⟩,fun _=>.same rfl (by simp)⟩,⟨K,d,T.mono (ed c),W.mono (ed c),fun _ _=>⟨rfl,rfl⟩,cl⟩,rfl,rfl,rfl,rfl,fun _=>rfl⟩
/-! ### links -/
theorem EL {M:List MN}{i:Nat}{m m':MN}(hi:lv M i=some m)(hg:m'.gone=false)(j:Nat):(lv (M.set i m') j).isSome=(lv M j).isSome:=by
 by_cases e:j=i
 ·subst e
  rw [hi]
  have h:=(lV hi).1
  have hl:=(ai.1 h).1
  rw [DX (m:=m') (by rw [dH,aC rfl,aC hl]) hg];rfl
 ·unfold lv;rw [jM (fun h=>e h.symm)]
theorem xJ {M:List MN}{p j k:Nat}(i:Nat):(lv (uH M p j k) i).isSome=(lv M i).isSome:=by
 cases e:lv M i with
 | some m=>rw [uq e];rfl
 | none =>
  cases e2:lv (uH M p j k) i with
  | none=>rfl
  | some m=>obtain⟨m0,h,_⟩:=oG e2;rw [h] at e;cases e
theorem vT {M:List MN}{p j k:Nat}(i:Nat):(lv (oU M p j k) i).isSome=(lv M i).isSome:=by
 cases e:lv M i with
 | some m=>rw [uo e];rfl
 | none =>
  cases e2:lv (oU M p j k) i with
  | none=>rfl
  | some m=>obtain⟨m0,h,_⟩:=nC e2;rw [h] at e;cases e
theorem nD {i:Nat}{m:MN}(h:lv M i=some m):wo M (i:Int):=⟨some i,rfl,fun j hj=>by cases hj;exact⟨m,h⟩⟩
theorem wV:wo M (-1):=⟨none,rfl,fun j hj=>by cases hj⟩
theorem Ie (W:Tw ex E c S K M σ){q:Nat}{mq:MN}(hq:lv M q=some mq)(j:Nat):wo M (pI mq.kids[j]?):=⟨_,rfl,fun i hi=>by
 obtain⟨m,h,_⟩:=W.kid q mq i hq (ah hi);exact⟨m,h⟩⟩
theorem LH (W:Tw ex E c S K M σ){q:Nat}{mq:MN}(hq:lv M q=some mq)(j:Nat):wo M (pI (pv mq.kids j)):=⟨_,rfl,fun i hi=>by
 unfold pv at hi
 split at hi
 ·cases hi
 ·obtain⟨m,h,_⟩:=W.kid q mq i hq (ah hi);exact⟨m,h⟩⟩
theorem Qo (W:Tw ex E c S K M σ)(cl:∀p k,k∈K p→(E p↔E k)){K':Nat→List Nat}{p k:Nat}(hp:¬E p)(hk:¬E k)(hm:∀q z,z∈K' q→z∈K q∨(q=p∧z=k)):∀q z,z∈K' q→(E q↔E z):=fun q z hz=>by
 rcases hm q z hz with h | ⟨rfl,rfl⟩
 ·exact cl q z h
 ·exact⟨fun h=>absurd h hp,fun h=>absurd h hk⟩
theorem Hm (cl:∀p k,k∈K p→(E p↔E k)){S':Tr}{K':Nat→List Nat}(f:Nat→Nd→Nd)(hat:∀y,S'.at y=(S.at y).map (f y))(hf:∀y n,E y→S.at y=some n→f y n=n)(hK:∀y,E y→K' y=K y)(y:Nat)(hy:E y):S'.at y=S.at y∧K' y=K y:=by
 refine⟨?_,hK y hy⟩
 rw [hat]
 cases e:S.at y with
 | none=>rfl
 | some n=>show some (f y n)=_;rw [hf y n hy e]
inductive OQ (S:Tr) (K:Nat→List Nat) (i:Nat) (n:Nd):Tr→List (List Value)→Int→Prop
 | doc (h:n.kind=1):OQ S K i n S [] 10
 | top (h:n.kind≠1) (ht:∀q,i∉K q):OQ S K i n S [] 0
 | kid (S':Tr) (q j:Nat) (h:n.kind≠1) (hj:(K q)[j]? = some i) (hc:yI S S' (K q) q j i):OQ S K i n S' [recC 2 (S.hd q) (S.hd i) n.prev n.next (j:Int) [] [] false 0 0] 0
theorem SB (S:Tr){l:List Nat}{p j k y:Nat}(n:Nd)(h1:y≠k)(h2:y≠p)(h3:l[j+1]?≠some y)(h4:pv l j≠some y):yt S l p j k y n=n:=by
 unfold yt
 simp only [h1,h2,h3,h4,iJ,uQ]
theorem F8 (S:Tr){l:List Nat}{p j k y:Nat}(n:Nd)(h1:y≠k)(h2:y≠p)(h3:l[j]?≠some y)(h4:pv l j≠some y):jI S l p j k y n=n:=by
 unfold jI
 simp only [h1,h2,h3,h4,iJ,uQ]
theorem GV {l:List Nat}{j y:Nat}(h:pv l j=some y):y∈l:=by
 unfold pv at h
 split at h
 ·cases h
 ·exact ah h
end
section
variable {ex : Prop} {E : Nat → Prop} {c x : Nat} {S : Tr} {K : Nat → List Nat} {d : Nat → Nat} {M : List MN} {σ : Nat → Nat} {R : Nat} {sv fv : Value} {w : World}
theorem Pg (h:fZ 0 R S sv fv w)(L:Lk S K d)(i:Nat)(n:Nd)(hi:S.at i=some n):Calls Tryz.prog 15 #[.pointer (some ⟨R,0,none⟩),.int .i64 (S.hd i)] w (TI R S sv fv w (OQ S K i n)):=by
 obtain⟨g,cap,rfl⟩:=fO h (by have:=iy hi;omega)
 by_cases hk:n.kind=1
 ·refine(KI h L i n hi hk).mono ?_
  rintro e w' ⟨rfl,hb⟩
  exact zi h hb (.doc hk)
 ·rcases L.NY i with ⟨q,hq⟩ | ht
  ·obtain⟨j,hj⟩:=aI.1 hq
   refine(KH h L q j i n hi hk hj).mono ?_
   rintro e w' ⟨S',v,hc,rfl,hrc,hT,hC⟩
   exact DK (.kid S' q j hk hj hc) hrc hT hc.len hC (fun k hk=>.inl (yQ _ (AU _ _ _ _ _) hc.at_ k hk)) ⟨[⟨2,S.hd q,S.hd i,n.prev,n.next,j,[],[],false,0,0⟩],rfl⟩
  ·refine(KG h L i n hi hk ht).mono ?_
   rintro e w' ⟨rfl,hb⟩
   exact zi h hb (.top hk ht)
theorem TA (L:Lk S K d)(cl:∀p k,k∈K p→(E p↔E k)){q j i:Nat}(hj:(K q)[j]? = some i)(hi:¬E i){S':Tr}(hc:yI S S' (K q) q j i):(∀y,E y→S'.at y=S.at y∧mP K q j y=K y)∧(∀p k,k∈mP K q j p→(E p↔E k)):=by
 have hq:¬E q:=fun h=>hi ((cl q i (ah hj)).1 h)
 refine⟨Hm cl (yt S (K q) q j i) hc.at_ (fun y n hy hn=>SB S n (fun e=>hi (e ▸ hy)) (fun e=>hq (e ▸ hy)) (fun e=>hq ((cl q y (ah e)).2 hy)) (fun e=>hq ((cl q y (GV e)).2 hy))) (fun y hy=>?_),fun p k hk=>cl p k (vX hk)⟩
 unfold mP
 rw [ax (fun e=>hq (by rw [← e];exact hy))]
theorem QM (T:iP c S K d)(W:Tw ex E c S K M σ)(cl:∀p k,k∈K p→(E p↔E k)){i:Nat}{mi:MN}{n:Nd}(hi:lv M i=some mi)(hn:S.at (σ i)=some n){S':Tr}{ls:List (List Value)}{er en:Int}{M':List MN}{rs:List Rc}
  (ht:OQ S K (σ i) n S' ls er)(hm:JW M i mi M' rs en):Both ex E c S K M σ S' ls er M' rs en:=by
 have hE:=W.off i mi hi
 rcases TQ W T hi hn hm with ⟨rfl,rfl,rfl,h4⟩ | ⟨rfl,rfl,rfl,h4,h5⟩ | ⟨rfl,h4,q,j,hj,hrs,hS⟩
 ·cases ht with
  | doc h=>exact qV T W cl 10
  | top h _=>exact absurd h4 h
  | kid S' q j h _ _=>exact absurd h4 h
 ·cases ht with
  | doc h=>exact absurd h h4
  | top h _=>exact qV T W cl 0
  | kid S' q j h hj _=>exact absurd (ah hj) (h5 q)
 ·cases ht with
  | doc h=>exact absurd h h4
  | top _ h=>exact absurd (ah hj) (h q)
  | kid S' q' j' _ hj' hc =>
   have e:=T.lk.rD (ah hj) (ah hj')
   subst e
   have e:=T.lk.inj hj hj'
   subst e
   obtain⟨T',W'⟩:=hS S' hc
   obtain⟨k1,k2⟩:=TA T.lk cl hj hE hc
   have hok:∀r∈rs,JS M r:=by
    cases hm with
    | top _ _=>intro r hr;cases hr
    | cut q0 i0 mq _ h1 h2 h3 =>
     intro r hr
     simp only [eF] at hr
     subst hr
     exact⟨nD h2,nD hi,LH W h2 _,Ie W h2 _⟩
   have hl:M'.length=M.length∧∀i,(lv M' i).isSome=(lv M i).isSome:=by
    cases hm with
    | top _ _=>exact⟨rfl,fun _=>rfl⟩
    | cut q0 i0 mq _ h1 h2 h3=>exact⟨by unfold uH;rw [gQ],xJ⟩
   refine⟨⟨rs.map (vC S σ),by rw [hrs,nK];rfl,?_,fun _=>⟨rfl,rfl⟩,fun _=>.same rfl hok⟩,⟨_,_,T'.mono (ed c),W'.mono (ed c),k1,k2⟩,hc.b,hc.s,by unfold Tr.fl;rw [hc.free,hc.len],hl.1,hl.2⟩
   rw [bM]
   have:=bW List.length hrs
   rw [bM] at this
   rw [← this];simp
inductive JZ (S:Tr) (K:Nat→List Nat) (d:Nat→Nat) (p i:Nat) (o:Option Nat) (np ni:Nd):Tr→List (List Value)→Int→Prop
 | no (h:nU S K d p i np ni=false):JZ S K d p i o np ni S [] 10
 | other (b:Nat) (h:nU S K d p i np ni=true) (e:o=some b) (hb:b∉K p):JZ S K d p i o np ni S [] 10
 | far (h:nU S K d p i np ni=true) (ho:∀b,o=some b→b∈K p) (hd:128 < d p+hgt K (128 - d i) i):JZ S K d p i o np ni S [] 5
 | ok (S':Tr) (K':Nat→List Nat) (ls:List (List Value)) (h:nU S K d p i np ni=true) (ho:∀b,o=some b→b∈K p) (hd:d p+hgt K (128 - d i) i≤128) (hout:Iw S K i p o ni S' K' ls) (hL:Lk S' K' (En S d p i)):JZ S K d p i o np ni S' ls 0
theorem Rq (L:Lk S K d){p b:Nat}{nb np:Nd}(hb:S.at b=some nb)(hp:S.at p=some np)(hn:b∉K p):nb.parent≠S.hd p:=fun e=>by
 rcases L.NY b with ⟨q,hq⟩ | ht
 ·obtain⟨j,hj⟩:=aI.1 hq
  have h1:=(L.kid q j b nb hj hb).1
  obtain⟨nq,hnq⟩:=aB.1 (L.kin q b hq).1
  have:=iy hnq
  have:=iy hp
  have:=L.few
  have e2:=zJ (b:=S.b) (s:=S.s) (i:=q) (j:=p) (by omega) (by omega) (h1.symm.trans e)
  exact hn (e2 ▸ hq)
 ·have h1:=(L.top b nb hb ht).1
  have:=(hd_ok L hp).2
  omega
theorem II (h:fZ 0 R S sv fv w)(L:Lk S K d)(p i:Nat)(o:Option Nat)(np ni:Nd)(hp:S.at p=some np)(hi:S.at i=some ni)(ho:∀b,o=some b→(S.at b).isSome=true) :
  Calls Tryz.prog 16 #[.pointer (some ⟨R,0,none⟩),.int .i64 (S.hd p),.int .i64 (S.hd i),.int .i64 (hO S o)] w (TI R S sv fv w (JZ S K d p i o np ni)):=by
 obtain⟨g,cap,rfl⟩:=fO h (by have:=iy hi;omega)
 cases hmay:nU S K d p i np ni with
 | false =>
  refine(Om h L p i o np ni hp hi ho hmay).mono ?_
  rintro e w' ⟨rfl,hb⟩
  exact zi h hb (.no hmay)
 | true =>
  by_cases hin:∀b,o=some b→b∈K p
  ·by_cases hdep:d p+hgt K (128 - d i) i≤128
   ·refine(Ol h L p i o np ni hp hi hin hmay hdep).mono ?_
    rintro e w' ⟨S',K',v,ls,hout,hL',rfl,hrc,hT,hC⟩
    have hx:S'.slots.length=S.slots.length∧∀k,yR R S' (.slice (some ⟨g,0,none⟩) S.slots.length cap) fv k→yR R S (.slice (some ⟨g,0,none⟩) S.slots.length cap) fv k∨w.heap.size≤k:=by
     cases id hout with
     | det j h1 h2 h3 h4 h5=>exact⟨h3.len,fun k hk=>.inl (yQ _ (uw _ _ _ _ _) h3.at_ k hk)⟩
     | sF q t j S1 o' h1 h2 h3 h4 h5 h6 h7=>exact⟨h5.len.trans h2.len,fun k hk=>.inl (yQ _ (AU _ _ _ _ _) h2.at_ k (yQ _ (uw _ _ _ _ _) h5.at_ k hk))⟩
    have hls:∃ts:List Rc,ls=ts.map encR:=by
     cases id hout with
     | det j h1 h2 h3 h4 h5=>subst h5;exact⟨[⟨1,S.hd p,S.hd i,_,_,j,[],[],false,0,0⟩],rfl⟩
     | sF q t j S1 o' h1 h2 h3 h4 h5 h6 h7=>subst h7;exact⟨[⟨2,S.hd q,S.hd i,ni.prev,ni.next,t,[],[],false,0,0⟩,⟨1,S.hd p,S.hd i,_,_,j,[],[],false,0,0⟩],rfl⟩
    exact DK (.ok S' K' ls hmay hin hdep hout hL') hrc hT hx.1 hC hx.2 hls
   ·refine(Lr h L p i o np ni hp hi hin hmay (by omega)).mono ?_
    rintro e w' ⟨rfl,hb⟩
    exact zi h hb (.far hmay hin (by omega))
  ·obtain⟨b,rfl,hb⟩:∃b,o=some b∧b∉K p:=by
    cases o with
    | none=>exact absurd (fun b hb=>by cases hb) hin
    | some b=>exact⟨b,rfl,fun hb=>hin (fun b' e=>by cases e;exact hb)⟩
   obtain⟨nb,hnb⟩:=aB.1 (ho b rfl)
   refine(Ht h L p i b np ni nb hp hi hnb hmay (Rq L hnb hp hb)).mono ?_
   rintro e w' ⟨rfl,hb'⟩
   exact zi h hb' (.other b hmay rfl hb)
theorem RN (W:Tw ex E c S K M σ){p b:Nat}{mp mb:MN}(hp:lv M p=some mp)(hb:lv M b=some mb):σ b∈K (σ p)↔mb.par=some p:=by
 rw [W.kids p mp hp]
 constructor
 ·intro h
  obtain⟨k,hk,e⟩:=bC.1 h
  obtain⟨mk,h1,h2⟩:=W.kid p mp k hp hk
  have:=W.inj k b mk mb h1 hb e
  subst this
  rw [hb] at h1;cases h1;exact h2
 ·intro h
  obtain⟨mq,h1,h2⟩:=W.par b mb p hb h
  rw [hp] at h1;cases h1
  exact bC.2 ⟨b,h2,rfl⟩
theorem JJ (T:iP c S K d)(W:Tw ex E c S K M σ)(cl:∀p k,k∈K p→(E p↔E k)){p i:Nat}{o:Option Nat}{mp mi:MN}{np ni:Nd}(hp:lv M p=some mp)(hi:lv M i=some mi)(hnp:S.at (σ p)=some np)(hni:S.at (σ i)=some ni)(hol:∀q,o=some q→∃mq,lv M q=some mq){S':Tr}{ls:List (List Value)}{er en:Int}{M':List MN}{rs:List Rc}
  (ht:JZ S K d (σ p) (σ i) (o.map σ) np ni S' ls er)(hm:zX M (fun i=>d (σ i)) p i o mp mi M' rs en):Both ex E c S K M σ S' ls er M' rs en:=by
 have hEp:=W.off p mp hp
 have hEi:=W.off i mi hi
 have hmay:=W.may T hp hi hnp hni
 have hgt':=W.hgt (128 - d (σ i)) i mi hi
 have hin:∀b mb,lv M b=some mb→(σ b∈K (σ p)↔mb.par=some p):=fun b mb hb=>RN W hp hb
 cases ht with
 | no h =>
  rw [hmay] at h
  cases hm with
  | no _=>exact qV T W cl 10
  | other b mb h2 _ _ _=>rw [h] at h2;cases h2
  | far h2 _ _=>rw [h] at h2;cases h2
  | ok M' rs h2 _ _ _=>rw [h] at h2;cases h2
 | other b h e hb =>
  rw [hmay] at h
  obtain⟨b',rfl,rfl⟩:=bJ.1 e
  cases hm with
  | no h2=>rw [h] at h2;cases h2
  | other b2 mb _ e2 _ _=>exact qV T W cl 10
  | far _ ho _=>obtain⟨mb,h1,h2⟩:=ho b' rfl;exact absurd ((hin b' mb h1).2 h2) hb
  | ok M' rs _ ho _ _=>obtain⟨mb,h1,h2⟩:=ho b' rfl;exact absurd ((hin b' mb h1).2 h2) hb
 | far h ho hd =>
  rw [hmay] at h
  cases hm with
  | no h2=>rw [h] at h2;cases h2
  | other b2 mb _ e2 hb hpb=>exact absurd ((hin b2 mb hb).1 (ho (σ b2) (by rw [e2];rfl))) hpb
  | far _ _ _=>exact qV T W cl 5
  | ok M' rs _ _ hd2 _=>rw [hgt'] at hd;have hd2:d (σ p)+_≤128:=hd2;omega
 | ok S' K' ls h ho hd hout hL =>
  have h':=h
  rw [hmay] at h
  cases hm with
  | no h2=>rw [h] at h2;cases h2
  | other b2 mb _ e2 hb hpb=>exact absurd ((hin b2 mb hb).1 (ho (σ b2) (by rw [e2];rfl))) hpb
  | far _ _ hd2=>rw [hgt'] at hd;have hd2:128 < d (σ p)+_:=hd2;omega
  | ok M' rs _ hoM _ hmi =>
   obtain⟨W',hls,hb,hs⟩:=W.ins T hp hi hnp hni h' hoM hout hmi
   have T':=T.ins hnp hni h' hout hL
   have hok:(∀r∈rs,JS M r)∧rs.length≤2∧M'.length=M.length∧∀i,(lv M' i).isSome=(lv M i).isSome:=by
    cases hmi with
    | det mp' j h1 h2 h3 =>
     refine⟨fun r hr=>?_,by simp,by unfold oU;rw [gQ],vT⟩
     simp only [eF] at hr
     subst hr
     exact⟨nD h2,nD hi,LH W h2 _,Ie W h2 _⟩
    | sF q t j mq mp' o' h1 h2 h3 h4 h5 h6 =>
     have hcp:=oG h4
     obtain⟨m0,hm0,hmp'⟩:=hcp
     have hsub:∀z∈mp'.kids,z∈m0.kids:=fun z hz=>by
      rw [hmp'] at hz
      simp only at hz
      split at hz
      ·exact Ya hz
      ·exact hz
     have f1:∀t,wo M (pI mp'.kids[t]?):=fun t=>⟨_,rfl,fun z hz=>by
      obtain⟨mz,h,_⟩:=W.kid p m0 z hm0 (hsub z (ah hz));exact⟨mz,h⟩⟩
     have f2:∀t,wo M (pI (pv mp'.kids t)):=fun t=>⟨_,rfl,fun z hz=>by
      obtain⟨mz,h,_⟩:=W.kid p m0 z hm0 (hsub z (GV hz));exact⟨mz,h⟩⟩
     refine⟨fun r hr=>?_,by simp,by unfold oU uH;rw [gQ,gQ],fun z=>by rw [vT,xJ]⟩
     simp only [bn,iH,rP] at hr
     rcases hr with rfl | rfl
     ·exact⟨nD h2,nD hi,LH W h2 _,Ie W h2 _⟩
     ·exact⟨nD hp,nD hi,f2 _,f1 _⟩
   have hst:(∀y,E y→S'.at y=S.at y∧K' y=K y)∧(∀p k,k∈K' p→(E p↔E k))∧S'.fl=S.fl:=by
    cases hout with
    | det j h1 h2 h3 h4 h5 =>
     subst h4
     refine⟨Hm cl (jI S (K (σ p)) (σ p) j (σ i)) h3.at_ (fun y n hy hn=>F8 S n (fun e=>hEi (e ▸ hy)) (fun e=>hEp (e ▸ hy)) (fun e=>hEp ((cl _ y (ah e)).2 hy)) (fun e=>hEp ((cl _ y (GV e)).2 hy))) (fun y hy=>?_),Qo W cl hEp hEi (fun q z hz=>wR hz),AQ h3⟩
     unfold jK
     rw [ax (fun e=>hEp (by rw [← e];exact hy))]
    | sF q t j S1 o' h1 h2 h3 h4 h5 h6 h7 =>
     subst h6
     obtain⟨k1,k2⟩:=TA T.lk cl h1 hEi h2
     have k3:=Hm (S:=S1) (K:=mP K q t) k2 (jI S1 (mP K q t (σ p)) (σ p) j (σ i)) h5.at_ (K':=jK (mP K q t) (σ p) j (σ i)) (fun y n hy hn=>F8 S1 n (fun e=>hEi (e ▸ hy)) (fun e=>hEp (e ▸ hy)) (fun e=>hEp ((k2 _ y (ah e)).2 hy)) (fun e=>hEp ((k2 _ y (GV e)).2 hy))) (fun y hy=>by
      unfold jK
      rw [ax (fun e=>hEp (by rw [← e];exact hy))])
     refine⟨fun y hy=>⟨(k3 y hy).1.trans (k1 y hy).1,(k3 y hy).2.trans (k1 y hy).2⟩,Qo W cl hEp hEi (fun q' z hz=>(wR hz).imp (fun h=>vX h) id),?_⟩
     rw [AQ h5]
     unfold Tr.fl;rw [h2.free,h2.len]
   refine⟨⟨rs.map (vC S σ),by rw [hls,nK];rfl,by rw [bM];omega,fun _=>⟨rfl,rfl⟩,fun _=>.same rfl hok.1⟩,⟨K',_,T'.mono (ed c),W'.mono (ed c),hst.1,hst.2.1⟩,hb,hs,hst.2.2,hok.2.2.1,hok.2.2.2⟩
end
end Go.Proofs.YtfelmdkeaacfeaaGreatDoor.W
end
