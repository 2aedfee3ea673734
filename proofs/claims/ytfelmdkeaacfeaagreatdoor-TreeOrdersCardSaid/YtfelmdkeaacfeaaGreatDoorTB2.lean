/- Texts joined: Tre AtT Lk LkB. -/
import Derived.Test.YtfelmdkeaacfeaaGreatDoorTB1
import Derived.OwnWalk
import Derived.WalkSpells
set_option maxRecDepth 100000
set_option maxHeartbeats 40000000
set_option linter.unusedVariables false
set_option linter.unusedSimpArgs false
section
namespace Go.Proofs.YtfelmdkeaacfeaaGreatDoor.W
open Go.RowKit
structure Nd where
 kind:Int
 name:List UInt8
 av:Value
 attrs:List (List UInt8×List UInt8)
 data:List UInt8
 parent:Int
 first:Int
 last:Int
 prev:Int
 next:Int
def dA (l:List UInt8):Value:=.string ⟨l.toArray⟩
def jd (n:Nd):List Value:=[.int .i64 n.kind,dA n.name,n.av,dA n.data,.int .i64 n.parent,.int .i64 n.first,.int .i64 n.last,.int .i64 n.prev,.int .i64 n.next]
def O1:List Value:=[.int .i64 0,dA [],.slice none 0 0,dA [],.int .i64 0,.int .i64 0,.int .i64 0,.int .i64 0,.int .i64 0]
def jB:Option Nd→List Value
 | none=>.bool false :: O1
 | some n=>.bool true :: jd n
theorem jQ (x:Option Nd):(jB x).length=10:=by cases x <;> rfl
def nS (l:List (Option Nd)):List Value:=l.flatMap jB
theorem IZ (l:List (Option Nd)):(nS l).length=l.length*10:=by
 induction l with
 | nil=>rfl
 | cons x l ih=>rw [nS,eG,aA,jQ,List.length_cons];unfold nS at ih;omega
theorem GI (l:List (Option Nd))(i:Nat)(x:Option Nd)(h:l[i]? = some x)(j:Nat)(hj:j < 10):(nS l)[i*10+j]? = (jB x)[j]?:=by
 induction l generalizing i with
 | nil=>simp at h
 | cons y l ih =>
  rw [nS,eG]
  cases i with
  | zero =>
   simp at h;subst h
   rw [di (by rw [jQ];omega)]
   congr 1;omega
  | succ i =>
   rw [bZ (by rw [jQ];omega),jQ,show(i+1)*10+j - 10=i*10+j by omega]
   exact ih i (by simpa using h)
theorem IX (l:List (Option Nd))(i:Nat)(x:Option Nd)(hi:i < l.length)(j:Nat)(u:Value)(hj:j < 10)(y:Option Nd)(hy:l[i]? = some y)(hx:jB x=(jB y).set j u):nS (l.set i x)=(nS l).set (i*10+j) u:=by
 induction l generalizing i with
 | nil=>simp at hi
 | cons z l ih =>
  cases i with
  | zero =>
   simp at hy;subst hy
   simp only [List.set_cons_zero,nS,eG]
   rw [hx,Xi _ _ (by rw [jQ];omega)]
   congr 2;omega
  | succ i =>
   simp only [List.set_cons_succ,nS,eG]
   rw [uU _ _ (by rw [jQ];omega),jQ,show(i+1)*10+j - 10=i*10+j by omega]
   congr 1
   exact ih i (by simpa using hi) (by simpa using hy)
structure Tr where
 b:Int
 s:Int
 slots:List (Option Nd)
 free:List Nat
 root:Int
def Tr.live (S:Tr):Nat:=(S.slots.filter Option.isSome).length
def Tr.hd (S:Tr)(i:Nat):Int:=hdl S.b S.s i
def Tr.ix (S:Tr)(h:Int):Option Nat :=
 if 0≤idx S.b S.s h∧((S.slots[(idx S.b S.s h).toNat]?).map Option.isSome)=some true then some (idx S.b S.s h).toNat else none
def jA (B:Nat)(w:World)(av:Value)(l:List (List UInt8×List UInt8)):Prop :=
 ∃a cap,av=.slice a l.length cap∧(l=[]∨∃g cur,a=some ⟨g,0,none⟩∧B≤g∧w.heap[g]? = some (.cells cur 91 (0,0)) ∧
  ∀i p,l[i]? = some p→cur[2*i]? = some (dA p.1)∧cur[2*i+1]? = some (dA p.2))
structure fZ (B R:Nat) (S:Tr) (sv fv:Value) (w:World):Prop where
 blk:dD w R [.int .i64 S.b,.int .i64 S.s,sv,fv,.int .i64 S.live,.int .i64 S.root] 57
 slots:w.ownsRow B 159 10 sv S.slots.length (nS S.slots)
 free:w.ownsRow B 3 1 fv S.free.length (S.free.map fun(i:Nat)=>Value.int .i64 (i:Int))
 attrs:∀(i:Nat) (n:Nd),S.slots[i]? = some (some n)→jA B w n.av n.attrs
 base:B≤R
 few:S.slots.length≤2000000000
theorem fZ.below {B R:Nat}{S:Tr}{sv fv:Value}{w w':World}(h:fZ B R S sv fv w)(hb:Below w.heap.size w w'):fZ B R S sv fv w':=by
 have keep:∀{e sz n:Nat} {v:Value} {xs:List Value},w.ownsRow B e sz v n xs→w'.ownsRow B e sz v n xs:=fun h =>
  h.kept (row:=none) ⟨hb.os,hb.tape,hb.output,hb.size,fun k hk _=>hb.block k hk⟩ (by rename_i v _;cases e:v.ownBlock with | none=>exact Or.inl rfl | some g=>exact Or.inr (by simp))
 refine⟨h.blk.below hb,keep h.slots,keep h.free,fun i n hi=>?_,h.base,h.few⟩
 obtain⟨a,cap,e,h'⟩:=h.attrs i n hi
 refine⟨a,cap,e,h'.imp id ?_⟩
 rintro⟨g,cur,e,hB,hg,hc⟩
 exact⟨g,cur,e,hB,(hb.block g (gp hg)).trans hg,hc⟩
theorem zG {S:Tr}{h:Int}{i:Nat}(k:S.ix h=some i):idx S.b S.s h=(i:Int)∧i < S.slots.length∧∃n,S.slots[i]? = some (some n):=by
 unfold Tr.ix at k
 split at k
 ·rename_i c
  obtain⟨c1,c2⟩:=c
  simp only [mY] at k
  subst k
  rw [bJ] at c2
  obtain⟨x,hx,hs⟩:=c2
  obtain⟨n,rfl⟩:=aB.1 hs
  exact⟨by omega,(ai.1 hx).1,n,hx⟩
 ·cases k
theorem RQ {S:Tr}{h:Int}(k:S.ix h=none)(h0:0≤idx S.b S.s h)(h1:(idx S.b S.s h).toNat < S.slots.length):S.slots[(idx S.b S.s h).toNat]? = some none:=by
 unfold Tr.ix at k
 split at k
 ·cases k
 ·rename_i c
  rw [ay h1] at c ⊢
  generalize S.slots[(idx S.b S.s h).toNat]=x at c ⊢
  cases x with
  | none=>rfl
  | some n=>exact absurd ⟨h0,rfl⟩ c
theorem Un (b s h:Int):-1≤idx b s h:=by
 unfold idx
 have:=qW s
 split
 ·omega
 ·rename_i k
  have:0≤(h - bnd b) / bnd s:=Int.ediv_nonneg (by omega) (by omega)
  omega
theorem Uo (b s h:Int):idx b s h≤2147483647:=by
 unfold idx
 split <;> omega
def uY (h:Int):Prop:=-9223372036854775808≤h∧h≤9223372036854775807
theorem len_any {B R:Nat}{S:Tr}{sv fv:Value}{w:World}(h:fZ B R S sv fv w) :
  Calls Tryz.prog 69 #[.pointer (some ⟨R,0,none⟩)] w fun e w'=>e=.returned (.int .i64 S.live)∧w'=w:=by
 have c:=h.blk.cell 4
 simp at c
 clear h
 go_enter Tryz.func69,Tryz.ntmps69
 go_wp2
 go_ret
 exact⟨rfl,rfl⟩
theorem vG {B R:Nat}{S:Tr}{sv fv:Value}{w:World}(h:fZ B R S sv fv w):∃a cap,sv=.slice a S.slots.length cap:=by
 rcases h.slots.2 with ⟨rfl,e⟩ | ⟨g,cap,cur,rfl,_⟩
 ·exact⟨none,0,by rw [e]⟩
 ·exact⟨_,_,rfl⟩
theorem fO {B R:Nat}{S:Tr}{sv fv:Value}{w:World}(h:fZ B R S sv fv w)(hn:0 < S.slots.length):∃g cap,sv=.slice (some ⟨g,0,none⟩) S.slots.length cap:=by
 rcases h.slots.2 with ⟨_,e⟩ | ⟨g,cap,cur,rfl,_⟩
 ·omega
 ·exact⟨_,_,rfl⟩
theorem dm {B R g cap:Nat}{S:Tr}{fv:Value}{w:World}(h:fZ B R S (.slice (some ⟨g,0,none⟩) S.slots.length cap) fv w){i:Nat}{x:Option Nd}(hx:S.slots[i]? = some x)(j:Nat)(hj:j < 10) :
  w.cell? ⟨g,i*10+j,none⟩=(jB x)[j]?:=by
 have hl:j < (jB x).length:=by rw [jQ];exact hj
 rw [ay hl]
 have:=h.slots.cells (g:=g) rfl (i*10+j) (jB x)[j] (by rw [GI _ _ _ hx _ hj,ay hl])
 rw [show(⟨g,0,none⟩:Addr).add (i*10+j)=⟨g,i*10+j,none⟩ by unfold Addr.add;split <;> simp_all] at this
 exact this
theorem Gg {B R:Nat}{S:Tr}{sv fv:Value}{w:World}(h:fZ B R S sv fv w)(hd:Int)(hh:uY hd)(hk:S.ix hd=none) :
  Calls Tryz.prog 112 #[.pointer (some ⟨R,0,none⟩),.int .i64 hd] w fun e w'=>e=.returned (.pointer none)∧Below w.heap.size w w':=by
 have c0:=h.blk.cell 0
 have c1:=h.blk.cell 1
 have c2:=h.blk.cell 2
 have hlt:=h.blk.lt
 simp at c0 c1 c2
 have i1:=Un S.b S.s hd
 have i2:=Uo S.b S.s hd
 have L:=RQ hk
 clear hk
 have HI:=ae (fun W=>AZ S.b S.s hd W hh.1 hh.2)
 generalize hj:idx S.b S.s hd=j at i1 i2 L HI
 clear hj
 by_cases hneg:j < 0
 ·obtain⟨a,cap,rfl⟩:=vG h
  clear L h
  go_enter Tryz.func112,Tryz.ntmps112
  go_wp2_with fail
  refine(HI.out _).mono ?_
  rintro e w2 ⟨rfl,hb2⟩
  obtain⟨hc,hf⟩:=oK hb2
  go_wp2_with fail
  go_ret
  exact⟨rfl,hb2⟩
 ·by_cases hge:(S.slots.length:Int)≤j
  ·obtain⟨a,cap,rfl⟩:=vG h
   clear L h
   go_enter Tryz.func112,Tryz.ntmps112
   go_wp2_with fail
   refine(HI.out _).mono ?_
   rintro e w2 ⟨rfl,hb2⟩
   obtain⟨hc,hf⟩:=oK hb2
   go_wp2_with fail
   go_ret
   exact⟨rfl,hb2⟩
  ·have hx:=L (by omega) (by omega)
   obtain⟨k,rfl⟩:=CZ (a:=j) (by omega)
   obtain⟨g,cap,rfl⟩:=fO h (by omega)
   rw [Int.toNat_natCast] at hx
   have u:=dm h hx 0 (by omega)
   simp only [jB,List.getElem?_cons_zero,Nat.add_zero] at u
   have hg:=(h.slots.lt g rfl).2
   have hk1:k < S.slots.length:=by omega
   clear L h hx
   go_enter Tryz.func112,Tryz.ntmps112
   go_wp2_with fail
   refine(HI.out _).mono ?_
   rintro e w2 ⟨rfl,hb2⟩
   obtain⟨hc,hf⟩:=oK hb2
   go_wp2_with fail
   go_ret
   exact⟨rfl,hb2⟩
theorem Ba {B R g cap:Nat}{S:Tr}{fv:Value}{w:World}(h:fZ B R S (.slice (some ⟨g,0,none⟩) S.slots.length cap) fv w)(hd:Int)(hh:uY hd){k:Nat}(hk:S.ix hd=some k) :
  Calls Tryz.prog 112 #[.pointer (some ⟨R,0,none⟩),.int .i64 hd] w fun e w'=>e=.returned (.pointer (some ⟨g,k*10,none⟩))∧Below w.heap.size w w':=by
 have c0:=h.blk.cell 0
 have c1:=h.blk.cell 1
 have c2:=h.blk.cell 2
 have hlt:=h.blk.lt
 simp at c0 c1 c2
 obtain⟨L1,L2,n,hn⟩:=zG hk
 have I:=fun W=>AZ S.b S.s hd W hh.1 hh.2
 rw [L1] at I
 have HI:=ae I
 have u:=dm h hn 0 (by omega)
 simp only [jB,List.getElem?_cons_zero,Nat.add_zero] at u
 have hg:=(h.slots.lt g rfl).2
 clear I L1 hk hn h
 go_enter Tryz.func112,Tryz.ntmps112
 go_wp2_with fail
 refine(HI.out _).mono ?_
 rintro e w2 ⟨rfl,hb2⟩
 obtain⟨hc,hf⟩:=oK hb2
 go_wp2_with fail
 go_ret
 exact⟨rfl,hb2⟩
abbrev na (g k:Nat):Addr:=⟨g,k*10+1,none⟩
theorem Tc {B R:Nat}{S:Tr}{sv fv:Value}{w:World}(h:fZ B R S sv fv w)(hd:Int)(hh:uY hd)(hk:S.ix hd=none) :
  Calls Tryz.prog 102 #[.pointer (some ⟨R,0,none⟩),.int .i64 hd] w fun e w'=>e=.returned (.pointer none)∧Below w.heap.size w w':=by
 have HF:=ae (Gg h hd hh hk)
 clear h hk
 go_enter Tryz.func102,Tryz.ntmps102
 go_wp2_with fail
 refine HF.out.mono ?_
 rintro e w2 ⟨rfl,hb2⟩
 go_wp2_with fail
 go_ret
 exact⟨rfl,hb2⟩
theorem S9 {B R g cap:Nat}{S:Tr}{fv:Value}{w:World}(h:fZ B R S (.slice (some ⟨g,0,none⟩) S.slots.length cap) fv w)(hd:Int)(hh:uY hd){k:Nat}(hk:S.ix hd=some k) :
  Calls Tryz.prog 102 #[.pointer (some ⟨R,0,none⟩),.int .i64 hd] w fun e w'=>e=.returned (.pointer (some (na g k)))∧Below w.heap.size w w':=by
 have HF:=ae (Ba h hd hh hk)
 obtain⟨_,_,n,hn⟩:=zG hk
 have u:=dm h hn 0 (by omega)
 simp only [jB,List.getElem?_cons_zero,Nat.add_zero] at u
 have hg:=(h.slots.lt g rfl).2
 clear h hk hn
 go_enter Tryz.func102,Tryz.ntmps102
 go_wp2_with fail
 refine HF.out.mono ?_
 rintro e w2 ⟨rfl,hb2⟩
 obtain⟨hc,hf⟩:=oK hb2
 go_wp2_with fail
 go_ret
 exact⟨rfl,hb2⟩
theorem qI {B R:Nat}{S:Tr}{sv fv:Value}{w:World}(h:fZ B R S sv fv w)(hd:Int)(hh:uY hd)(hk:S.ix hd=none) :
  Calls Tryz.prog 52 #[.pointer (some ⟨R,0,none⟩),.int .i64 hd] w fun e w'=>e=.returned (.pointer none)∧Below w.heap.size w w':=by
 have HF:=ae (Tc h hd hh hk)
 have c0:=h.blk.cell 0
 simp at c0
 clear h hk
 go_enter Tryz.func52,Tryz.ntmps52
 go_wp2_with fail
 refine HF.out.mono ?_
 rintro e w2 ⟨rfl,hb2⟩
 go_wp2_with fail
 go_ret
 exact⟨rfl,hb2⟩
theorem bV {B R g cap:Nat}{S:Tr}{fv:Value}{w:World}(h:fZ B R S (.slice (some ⟨g,0,none⟩) S.slots.length cap) fv w)(hd:Int)(hh:uY hd){k:Nat}(hk:S.ix hd=some k) :
  Calls Tryz.prog 52 #[.pointer (some ⟨R,0,none⟩),.int .i64 hd] w fun e w'=>e=.returned (.pointer (some (na g k)))∧Below w.heap.size w w':=by
 have HF:=ae (S9 h hd hh hk)
 have c0:=h.blk.cell 0
 simp at c0
 clear h hk
 go_enter Tryz.func52,Tryz.ntmps52
 go_wp2_with fail
 refine HF.out.mono ?_
 rintro e w2 ⟨rfl,hb2⟩
 go_wp2_with fail
 go_ret
 exact⟨rfl,hb2⟩
/-! ### handles -/
theorem Nk (b s:Int)(i:Nat)(hi:i≤2000000000):hdl b s i=bnd b+bnd s*i:=by
 unfold hdl;rw [ax (by omega)]
theorem Us (b s:Int)(i:Nat)(hi:i≤2000000000):uY (hdl b s i)∧1≤hdl b s i:=by
 rw [Nk b s i hi]
 have h1:=qW b
 have h2:=yz b
 have h3:=AO (qW s) (yz s) (by omega:(0:Int)≤i) (by omega)
 unfold uY
 omega
theorem Ia (b s:Int)(i:Nat)(hi:i≤2000000000):idx b s (hdl b s i)=i:=by
 rw [Nk b s i hi]
 have h1:=qW s
 have h2:bnd b+bnd s*(i:Int) - bnd b=bnd s*i:=by omega
 have h3:=AO (qW s) (yz s) (by omega:(0:Int)≤i) (by omega)
 have h4:bnd s*(i:Int) % bnd s=0:=Int.mul_emod_right _ _
 have h5:bnd s*(i:Int) / bnd s=i:=Int.mul_ediv_cancel_left _ (by omega)
 rw [Nh (by omega) (by rw [h2];exact h4) (by rw [h2,h5];omega),h2,h5]
theorem zJ {b s:Int}{i j:Nat}(hi:i≤2000000000)(hj:j≤2000000000)(h:hdl b s i=hdl b s j):i=j:=by
 have h1:=Ia b s i hi
 have h2:=Ia b s j hj
 rw [h,h2] at h1
 omega
theorem Ea {S:Tr}{i:Nat}{n:Nd}(hf:S.slots.length≤2000000000)(h:S.slots[i]? = some (some n)):S.ix (S.hd i)=some i:=by
 have hi:=(ai.1 h).1
 unfold Tr.ix Tr.hd
 rw [Ia _ _ _ (by omega),Int.toNat_natCast,h]
 simp
theorem RP (S:Tr):S.ix 0=none:=by
 unfold Tr.ix
 have:idx S.b S.s 0=-1:=Ed (Or.inl (by have:=qW S.b;omega))
 rw [this,ax (by omega)]
theorem Qm:uY 0:=by unfold uY;omega
def Tr.at (S:Tr)(i:Nat):Option Nd:=(S.slots[i]?).join
theorem dN {S:Tr}{i:Nat}{n:Nd}(h:S.at i=some n):S.slots[i]? = some (some n):=by
 unfold Tr.at at h
 cases e:S.slots[i]? with
 | none=>rw [e] at h;cases h
 | some x=>rw [e] at h;simp at h;rw [h]
theorem iy {S:Tr}{i:Nat}{n:Nd}(h:S.at i=some n):i < S.slots.length:=(ai.1 (dN h)).1
theorem nX {S:Tr}{i:Nat}{n:Nd}(h:S.slots[i]? = some (some n)):S.at i=some n:=by unfold Tr.at;rw [h];rfl
def hO (S:Tr):Option Nat→Int
 | none=>0
 | some i=>S.hd i
structure Lk (S:Tr) (K:Nat→List Nat) (d:Nat→Nat):Prop where
 kin:∀p k,k∈K p→(S.at p).isSome=true∧(S.at k).isSome=true
 node:∀i n,S.at i=some n→n.first=hO S (K i)[0]?∧n.last=hO S (K i).getLast?
 kid:∀p j k n,(K p)[j]? = some k→S.at k=some n→n.parent=S.hd p∧n.prev=hO S (if j=0 then none else(K p)[j - 1]?)∧n.next=hO S (K p)[j+1]?
 top:∀i n,S.at i=some n→(∀p,i∉K p)→n.parent=0∧n.prev=0∧n.next=0
 nodup:∀p,(K p).Nodup
 qc:∀p k,k∈K p→d k=d p+1
 one:∀i,(S.at i).isSome=true→(∀p,i∉K p)→d i=1
 low:∀i,d i≤128
 few:S.slots.length≤1000000
theorem Lk.some {S K d}(h:Lk S K d){p j k:Nat}(hk:(K p)[j]? = some k):∃n,S.at k=some n:=aB.1 (h.kin p k (ah hk)).2
theorem hd_ok {S K d}(h:Lk S K d){i:Nat}{n:Nd}(hi:S.at i=some n):uY (S.hd i)∧1≤S.hd i:=Us _ _ _ (by have:=iy hi;have:=h.few;omega)
theorem fV {S K d}(h:Lk S K d){i:Nat}{n:Nd}(hi:S.at i=some n):S.ix (S.hd i)=some i:=Ea (by have:=h.few;omega) (dN hi)
theorem qM:∀(n:Nat) (l:List Nat),l.Nodup→(∀x∈l,x < n)→l.length≤n
 | 0,[],_,_=>au _
 | 0,x :: l,_,h=>absurd (h x (by simp)) (by omega)
 | n+1,l,hn,h=>by
  have ih:=qM n (l.erase n) (hn.erase n) (fun x hx=>by
   have h1:=(hn.mem_erase_iff).1 hx
   have:=h x h1.2
   omega)
  rw [List.length_erase] at ih
  split at ih <;> omega
theorem lX {S K d}(h:Lk S K d)(p:Nat):(K p).length≤1000000:=by
 have:=qM S.slots.length (K p) (h.nodup p) (fun k hk=>by
  obtain⟨n,hn⟩:=aB.1 (h.kin p k hk).2
  exact iy hn)
 have:=h.few
 omega
theorem Tn:(Tryz.prog.info? 3).map (fun i=>(i.zero,i.size,i.bytes))=some (some (.int .i64 0),1,8):=by kernel_rfl
def hC (l:List Int):List Value:=l.map (Value.int .i64)
theorem aU {w w':World}(hb:Below w.heap.size w w'){a:Addr}{v:Value}(h:w.cell? a=some v):w'.cell? a=some v:=by
 rw [hb.cell (p:=a) (iG w a h)];exact h
theorem fH {w w':World}{B e sz n:Nat}{v:Value}{xs:List Value}(h:w.ownsRow B e sz v n xs)(hb:Below w.heap.size w w'):w'.ownsRow B e sz v n xs :=
 h.kept (row:=none) ⟨hb.os,hb.tape,hb.output,hb.size,fun k hk _=>hb.block k hk⟩ (by cases e:v.ownBlock with | none=>exact Or.inl rfl | some g=>exact Or.inr (by simp))
def slen:Value→Nat
 | .slice _ k _=>k
 | _=>0
theorem GZ {w:World}{B e sz n:Nat}{v:Value}{xs:List Value}(h:w.ownsRow B e sz v n xs):slen v=n:=by
 rcases h.2 with ⟨rfl,e⟩ | ⟨g,cap,cur,rfl,_⟩
 ·rw [e];rfl
 ·rfl
theorem bK {B R g cap:Nat}{S:Tr}{fv:Value}{w:World}(h:fZ B R S (.slice (some ⟨g,0,none⟩) S.slots.length cap) fv w){i:Nat}{n:Nd}(hn:S.at i=some n)(j:Nat)(hj:j < 9) :
  w.cell? ⟨g,i*10+1+j,none⟩=(jd n)[j]?:=by
 have:=dm h (dN hn) (1+j) (by omega)
 rw [← lN] at this
 rw [this,oZ 1 j]
 rfl
def WB (w:World)(S:Tr)(l:List Nat)(ov kv:Value)(wr:World):Prop :=
 ∃(j:Nat) (v:Value),j≤l.length∧v=ov∧kv=.int .i64 (hO S l[j]?)∧wr.ownsRow w.heap.size 3 1 v j (hC ((l.take j).map S.hd))∧Below w.heap.size w wr
theorem pV {B R g cap:Nat}{S:Tr}{fv:Value}{w:World}{K:Nat→List Nat}{d:Nat→Nat}(h:fZ B R S (.slice (some ⟨g,0,none⟩) S.slots.length cap) fv w)(hL:Lk S K d)(i:Nat)(n:Nd)(hi:S.at i=some n) :
  Calls Tryz.prog 27 #[.pointer (some ⟨R,0,none⟩),.int .i64 (S.hd i)] w fun e w'=>∃v,e=.returned v∧w'.ownsRow w.heap.size 3 1 v (K i).length (hC ((K i).map S.hd))∧Below w.heap.size w w':=by
 have HA:=ae (bV h (S.hd i) (hd_ok hL hi).1 (fV hL hi))
 have HT:=ae h
 have HL:=ae hL
 have HI:=ae hi
 have hkl:=lX hL i
 have cf:=bK h hi 5 (by omega)
 simp only [jd,fQ,fP] at cf
 obtain⟨i0,hi0,hz0,hz1,hz2⟩:=WY Tn
 rw [(hL.node i n hi).1] at cf
 clear h hL hi
 go_enter Tryz.func27,Tryz.ntmps27
 go_wp2_with fail
 refine HA.out.mono ?_
 rintro e w2 ⟨rfl,hb2⟩
 have cf2:=aU hb2 cf
 clear cf
 go_wp2_with fail
 go_loopw [6,7] (fun ov kv wr=>WB w S (K i) ov kv wr) (fun ov _ _=>(K i).length - slen ov)
 case atStart=>exact⟨0,_,by omega,rfl,rfl,aG _ _ _ _,hb2⟩
 case round =>
  obtain⟨j,ov,hj,rfl,rfl,hown,hB⟩:=hrel
  by_cases hlt:j < (K i).length
  ·obtain⟨k,hk⟩:∃k,(K i)[j]? = some k:=⟨_,ay hlt⟩
   obtain⟨nk,hnk⟩:=HL.out.some hk
   have hpos:=(hd_ok HL.out hnk).2
   have hho:=(hd_ok HL.out hnk).1
   have HA2:=ae (fun wx (hb:Below w.heap.size w wx)=>bV (HT.out.below hb) (S.hd k) hho (fV HL.out hnk))
   have HC:=ae (fun wx (hb:Below w.heap.size w wx)=>bK (HT.out.below hb) hnk 8 (by omega))
   have hnext:=(HL.out.kid i j k nk hk hnk).2.2
   have HO:=ae (show ∀A,(wr.alloc A).ownsRow w.heap.size 3 1 ov j (hC (((K i).take j).map S.hd)) from fun A=>hown.alloc A)
   have HTK:=ae (show hC (((K i).take (j+1)).map S.hd)=hC (((K i).take j).map S.hd) ++ [.int .i64 (S.hd k)] by
    unfold hC;rw [fJ,hk];simp)
   have hlt2:=fun g (hg:ov.ownBlock=some g)=>(hown.lt g hg).1
   have hne:¬S.hd k=0:=by omega
   have hne2:(S.hd k == 0)=false:=by simpa using hne
   rw [hk,show hO S (Option.some k)=S.hd k from rfl]
   have hsl:=GZ hown
   clear hown
   generalize S.hd k=hk1 at *
   generalize hC (((K i).take j).map S.hd)=XS at *
   go_wp2_with (at_builtin;refine qo _ rfl _ _ 31 rfl w.heap.size 3 i0 _ 1 8 Tryz.underlying31 hi0 hz0 hz1 hz2 rfl (by decide) _ j _ rfl (HO.out _) _ 1 1 [.int .i64 hk1] rfl rfl (cell_one_new _ _ _) (by simp [Value.oneCell']) ?c1 ?c2 ?c3 ?_)
   case c1=>unfold maxLen;omega
   case c2=>omega
   case c3=>have:=hB.size;simp;omega
   intro v' w5 hown5 hgr5 _
   rw [← HTK.out] at hown5
   have hB5:Below w.heap.size w w5:=(hB.alloc hB.size _).grown hgr5 (by have:=hB.size;simp;omega) hlt2
   have HW:=ae hown5
   clear hown5 hgr5
   go_wp2_with fail
   refine(HA2.out _ hB5).mono ?_
   rintro e w6 ⟨rfl,hb6⟩
   have hB6:=hB5.trans (hb6.mono hB5.size)
   have c8:=HC.out _ hB6
   rw [show(jd nk)[8]? = Option.some (.int .i64 nk.next) from rfl,hnext] at c8
   have hsl6:=GZ HW.out
   have HW6:=ae (fH HW.out hb6)
   clear HW
   go_wp2_with fail
   exact⟨⟨j+1,_,by omega,rfl,rfl,HW6.out,hB6⟩,by rw [hsl,hsl6];omega⟩
  ·obtain rfl:j=(K i).length:=by omega
   rw [show(K i)[(K i).length]? = none from bQ (au _)]
   rw [dE] at hown
   have HW:=ae hown
   clear hown
   rw [show hO S none=0 from rfl]
   go_wp2_with fail
   go_ret
   exact⟨_,rfl,HW.out,hB⟩
def ptr (g:Nat):Option Nat→Value
 | none=>.pointer none
 | some k=>.pointer (some (na g k))
def Ew (S:Tr)(o:Option Nat):Prop:=∀k,o=some k→(S.at k).isSome=true
theorem Tv {S K d}(h:Lk S K d){o:Option Nat}(hu:Ew S o):uY (hO S o):=by
 cases o with
 | none=>exact Qm
 | some k=>obtain⟨n,hn⟩:=aB.1 (hu k rfl);exact(hd_ok h hn).1
theorem Qp {S K d}(h:Lk S K d){o:Option Nat}(hu:Ew S o):S.ix (hO S o)=o:=by
 cases o with
 | none=>exact RP S
 | some k=>obtain⟨n,hn⟩:=aB.1 (hu k rfl);exact fV h hn
theorem QQ {B R g cap:Nat}{S:Tr}{fv:Value}{w:World}{K d}(h:fZ B R S (.slice (some ⟨g,0,none⟩) S.slots.length cap) fv w)(hL:Lk S K d)(o:Option Nat)(hu:Ew S o) :
  Calls Tryz.prog 52 #[.pointer (some ⟨R,0,none⟩),.int .i64 (hO S o)] w fun e w'=>e=.returned (ptr g o)∧Below w.heap.size w w':=by
 have hix:=Qp hL hu
 cases o with
 | none=>exact qI h _ (Tv hL hu) hix
 | some k=>exact bV h _ (Tv hL hu) hix
theorem KQ {S K d}(h:Lk S K d){x:Nat}{n:Nd}(hx:S.at x=some n):∃o:Option Nat,n.parent=hO S o∧Ew S o∧(o=none→d x=1∧∀p,x∉K p)∧(∀p,o=some p→x∈K p∧d x=d p+1):=by
 by_cases hp:∃p,x∈K p
 ·obtain⟨p,hp⟩:=hp
  obtain⟨j,hj⟩:=aI.1 hp
  refine⟨some p,(h.kid p j x n hj hx).1,fun k hk=>by cases hk;exact(h.kin p x hp).1,fun e=>(by cases e),fun q hq=>by cases hq;exact⟨hp,h.qc p x hp⟩⟩
 ·have hp':∀p,x∉K p:=fun p hx=>hp ⟨p,hx⟩
  exact⟨none,(h.top x n hx hp').1,fun k hk=>(by cases hk),fun _=>⟨h.one x (by rw [hx];rfl) hp',hp'⟩,fun q hq=>(by cases hq)⟩
def pv (l:List Nat)(j:Nat):Option Nat:=if j=0 then none else l[j - 1]?
def WC (w:World)(S:Tr)(l:List Nat)(j:Nat)(cv kv:Value)(wr:World):Prop :=
 ∃c:Nat,c≤j∧cv=.int .i64 (c:Int)∧kv=.int .i64 (hO S (pv l (j - c)))∧Below w.heap.size w wr
theorem sQ {B R g cap:Nat}{S:Tr}{fv:Value}{w:World}{K:Nat→List Nat}{d:Nat→Nat}(h:fZ B R S (.slice (some ⟨g,0,none⟩) S.slots.length cap) fv w)(hL:Lk S K d)(p j i:Nat)(hj:(K p)[j]? = some i) :
  Calls Tryz.prog 28 #[.pointer (some ⟨R,0,none⟩),.int .i64 (S.hd i)] w fun e w'=>e=.returned (.int .i64 (j:Int))∧Below w.heap.size w w':=by
 obtain⟨n,hi⟩:=hL.some hj
 have hkl:=lX hL p
 have hjl:j < (K p).length:=(ai.1 hj).1
 obtain⟨np,hp⟩:=aB.1 (hL.kin p i (ah hj)).1
 have hne:¬S.hd p=0:=by have:=(hd_ok hL hp).2;omega
 have hne2:(S.hd p == 0)=false:=by simpa using hne
 have HA:=ae (bV h (S.hd i) (hd_ok hL hi).1 (fV hL hi))
 have HT:=ae h
 have HL:=ae hL
 have c4:=bK h hi 4 (by omega)
 have c7:=bK h hi 7 (by omega)
 simp only [jd,fQ,fP] at c4 c7
 obtain⟨k1,k2,_⟩:=hL.kid p j i n hj hi
 rw [k1] at c4
 rw [k2,show(if j=0 then none else(K p)[j - 1]?)=pv (K p) j from rfl] at c7
 generalize S.hd p=hp1 at *
 clear h hL hi k1 k2 hp
 go_enter Tryz.func28,Tryz.ntmps28
 go_wp2_with fail
 refine HA.out.mono ?_
 rintro e w2 ⟨rfl,hb2⟩
 have d4:=aU hb2 c4
 have d7:=aU hb2 c7
 clear c4 c7
 go_wp2_with fail
 go_loopw [6,7] (fun cv kv wr=>WC w S (K p) j cv kv wr) (fun cv _ _=>j - (intOf cv).toNat)
 case atStart=>exact⟨0,by omega,rfl,rfl,hb2⟩
 case round =>
  obtain⟨c,hc,rfl,rfl,hB⟩:=hrel
  by_cases hlt:c < j
  ·obtain⟨k,hk⟩:∃k,(K p)[j - c - 1]? = some k:=⟨_,ay (by omega)⟩
   obtain⟨nk,hnk⟩:=HL.out.some hk
   have hpv:pv (K p) (j - c)=some k:=by unfold pv;rw [ax (by omega)];exact hk
   have hnp:nk.prev=hO S (pv (K p) (j - (c+1))):=by
    have:=(HL.out.kid p (j - c - 1) k nk hk hnk).2.1
    rw [this];rfl
   have hpos:=(hd_ok HL.out hnk).2
   have HA2:=ae (bV (HT.out.below hB) (S.hd k) (hd_ok HL.out hnk).1 (fV HL.out hnk))
   have HC:=ae (fun wx (hb:Below w.heap.size w wx)=>bK (HT.out.below hb) hnk 7 (by omega))
   have hkne:¬S.hd k=0:=by omega
   have hkne2:(S.hd k == 0)=false:=by simpa using hkne
   rw [hpv,show hO S (Option.some k)=S.hd k from rfl]
   generalize S.hd k=hk1 at *
   clear hk
   go_wp2_with fail
   refine HA2.out.mono ?_
   rintro e w6 ⟨rfl,hb6⟩
   have hB6:=hB.trans (hb6.mono hB.size)
   have c8:=HC.out _ hB6
   rw [show(jd nk)[7]? = Option.some (.int .i64 nk.prev) from rfl,hnp] at c8
   go_wp2_with fail
   exact⟨⟨c+1,by omega,by go_num,rfl,hB6⟩,by simp [intOf];omega⟩
  ·obtain rfl:c=j:=by omega
   rw [jY,show hO S (pv (K p) 0)=0 from rfl]
   go_wp2_with fail
   go_ret
   exact⟨rfl,hB⟩
def WI (w:World)(S:Tr)(g:Nat)(d:Nat→Nat)(i:Nat)(dv nv:Value)(wr:World):Prop :=
 ∃o:Option Nat,Ew S o∧nv=ptr g o∧dv=.int .i64 ((d i - (match o with | none=>0 | some x=>d x):Nat):Int)∧(∀x,o=some x→d x≤d i)∧Below w.heap.size w wr
theorem wX {B R g cap:Nat}{S:Tr}{fv:Value}{w:World}{K:Nat→List Nat}{d:Nat→Nat}(h:fZ B R S (.slice (some ⟨g,0,none⟩) S.slots.length cap) fv w)(hL:Lk S K d)(i:Nat)(n:Nd)(hi:S.at i=some n) :
  Calls Tryz.prog 55 #[.pointer (some ⟨R,0,none⟩),.int .i64 (S.hd i)] w fun e w'=>e=.returned (.int .i64 (d i:Int))∧Below w.heap.size w w':=by
 have HA:=ae (bV h (S.hd i) (hd_ok hL hi).1 (fV hL hi))
 have HT:=ae h
 have HL:=ae hL
 have hlow:=hL.low
 have hui:(S.at i).isSome=true:=by rw [hi];rfl
 clear h hL hi
 go_enter Tryz.func55,Tryz.ntmps55
 go_wp2_with fail
 refine HA.out.mono ?_
 rintro e w2 ⟨rfl,hb2⟩
 go_wp2_with fail
 go_loopw [5,6] (fun dv nv wr=>WI w S g d i dv nv wr) (fun dv nv _=>match nv with | .pointer none=>0 | _=>d i+1 - (intOf dv).toNat)
 case atStart=>exact⟨some i,fun k hk=>by cases hk;exact hui,rfl,by simp,fun x hx=>by cases hx;exact au _,hb2⟩
 case round =>
  obtain⟨o,hu,rfl,rfl,hd,hB⟩:=hrel
  cases o with
  | none =>
   rw [show ptr g none=.pointer none from rfl]
   simp only [Nat.sub_zero]
   go_wp2_with fail
   go_ret
   exact⟨rfl,hB⟩
  | some x =>
   obtain⟨nx,hx⟩:=aB.1 (hu x rfl)
   obtain⟨o2,hpar,hu2,hn1,hn2⟩:=KQ HL.out hx
   have HA2:=ae (QQ (HT.out.below hB) HL.out o2 hu2)
   have cx:=bK (HT.out.below hB) hx 4 (by omega)
   rw [show(jd nx)[4]? = Option.some (.int .i64 nx.parent) from rfl,hpar] at cx
   have hdx:=hd x rfl
   have hdi:=hlow i
   have hdx1:1≤d x:=by
    cases o2 with
    | none=>have:=(hn1 rfl).1;omega
    | some p=>have:=(hn2 p rfl).2;omega
   rw [show ptr g (Option.some x)=.pointer (Option.some (na g x)) from rfl]
   simp only []
   go_wp2_with fail
   refine HA2.out.mono ?_
   rintro e w6 ⟨rfl,hb6⟩
   have hB6:=hB.trans (hb6.mono hB.size)
   go_wp2_with fail
   refine⟨⟨o2,hu2,rfl,?_,?_,hB6⟩,?_⟩
   ·congr 1
    cases o2 with
    | none=>have:=(hn1 rfl).1;simp only [];omega
    | some p=>have:=(hn2 p rfl).2;simp only [];omega
   ·intro y hy
    have:=(hn2 y hy).2
    omega
   ·cases o2 with
    | none=>simp [ptr,intOf];omega
    | some p=>simp [ptr,intOf];omega
def pr (S:Tr)(i:Nat):Option Nat:=(S.at i).bind fun n=>S.ix n.parent
def mX (S:Tr)(a:Nat):Nat→Option Nat→Bool
 | 0,_=>false
 | _,none=>false
 | f+1,some x=>a == x || mX S a f (pr S x)
def dO (d:Nat→Nat):Option Nat→Nat
 | none=>0
 | some x=>d x
theorem Ja {S K d}(h:Lk S K d){x:Nat}{n:Nd}(hx:S.at x=some n){o:Option Nat}(hp:n.parent=hO S o)(hu:Ew S o):pr S x=o:=by
 unfold pr;rw [hx,Option.bind_some,hp,Qp h hu]
def WM (w:World)(S:Tr)(g:Nat)(d:Nat→Nat)(a b:Nat)(bv nv:Value)(wr:World):Prop :=
 ∃o:Option Nat,Ew S o∧bv=.int .i64 (hO S o)∧nv=ptr g o∧mX S a (d b) (some b)=mX S a (dO d o) o∧Below w.heap.size w wr
def hnum:Value→Int
 | .int _ n=>n
 | _=>0
theorem Ij {B R g cap:Nat}{S:Tr}{fv:Value}{w:World}{K:Nat→List Nat}{d:Nat→Nat}(h:fZ B R S (.slice (some ⟨g,0,none⟩) S.slots.length cap) fv w)(hL:Lk S K d)(a b:Nat)(na' nb:Nd)(ha:S.at a=some na')(hb:S.at b=some nb) :
  Calls Tryz.prog 32 #[.pointer (some ⟨R,0,none⟩),.int .i64 (S.hd a),.int .i64 (S.hd b)] w fun e w'=>e=.returned (.bool (mX S a (d b) (some b)))∧Below w.heap.size w w':=by
 have HA:=ae (bV h (S.hd a) (hd_ok hL ha).1 (fV hL ha))
 have HB:=ae (fun wx (hbx:Below w.heap.size w wx)=>bV (h.below hbx) (S.hd b) (hd_ok hL hb).1 (fV hL hb))
 have HT:=ae h
 have HL:=ae hL
 have hub:(S.at b).isSome=true:=by rw [hb];rfl
 have HAA:=ae ha
 clear h hL hb ha
 go_enter Tryz.func32,Tryz.ntmps32
 go_wp2_with fail
 refine HA.out.mono ?_
 rintro e w2 ⟨rfl,hb2⟩
 go_wp2_with fail
 refine(HB.out _ hb2).mono ?_
 rintro e w3 ⟨rfl,hb3⟩
 have hB3:=hb2.trans (hb3.mono hb2.size)
 go_wp2_with fail
 go_loopw [2,7] (fun bv nv wr=>WM w S g d a b bv nv wr) (fun bv _ _=>dO d (S.ix (hnum bv)))
 case atStart=>exact⟨some b,fun k hk=>by cases hk;exact hub,rfl,rfl,rfl,hB3⟩
 case round =>
  obtain⟨o,hu,rfl,rfl,hc,hB⟩:=hrel
  cases o with
  | none =>
   have HC:=ae hc
   clear hc
   rw [show ptr g none=.pointer none from rfl]
   go_wp2_with fail
   go_ret
   exact⟨by rw [HC.out];rfl,hB⟩
  | some x =>
   obtain⟨nx,hx⟩:=aB.1 (hu x rfl)
   obtain⟨o2,hpar,hu2,hn1,hn2⟩:=KQ HL.out hx
   have hpr:=Ja HL.out hx hpar hu2
   have HA2:=ae (fun wx (hb:Below wr.heap.size wr wx)=>QQ ((HT.out.below hB).below hb) HL.out o2 hu2)
   have cx:=bK (HT.out.below hB) hx 4 (by omega)
   rw [show(jd nx)[4]? = Option.some (.int .i64 nx.parent) from rfl,hpar] at cx
   have hdd:d x=dO d o2+1:=by
    cases o2 with
    | none=>exact(hn1 rfl).1
    | some p=>exact(hn2 p rfl).2
   have hstep:mX S a (dO d (Option.some x)) (Option.some x)=(a == x || mX S a (dO d o2) o2):=by
    show mX S a (d x) (Option.some x)=_
    rw [hdd,show mX S a (dO d o2+1) (Option.some x)=(a == x || mX S a (dO d o2) (pr S x)) from rfl,hpr]
   have hixx:S.ix (S.hd x)=Option.some x:=fV HL.out hx
   have hix2:=Qp HL.out hu2
   rw [show ptr g (Option.some x)=.pointer (Option.some (na g x)) from rfl,show hO S (Option.some x)=S.hd x from rfl]
   have hall:=(HL.out).few
   by_cases hax:a=x
   ·subst hax
    have HC:=ae (hc.trans (hstep.trans (show _=true by simp)))
    clear hc hstep
    go_wp2_with fail
    go_ret
    exact⟨by rw [HC.out];rfl,hB⟩
   ·have hne:¬S.hd a=S.hd x:=fun e=>hax (zJ (by have:=iy HAA.out;omega) (by have:=iy hx;omega) e)
    have hne2:(S.hd a == S.hd x)=false:=by simpa using hne
    have HC:=ae (hc.trans (hstep.trans (show _=mX S a (dO d o2) o2 by
     have:(a == x)=false:=by simpa using hax
     rw [this,iE])))
    clear hc hstep
    go_wp2_with fail
    refine(HA2.out _ (ak _ _)).mono ?_
    rintro e w6 ⟨rfl,hb6⟩
    have hB6:=hB.trans (hb6.mono hB.size)
    go_wp2_with fail
    refine⟨⟨o2,hu2,rfl,rfl,HC.out,hB6⟩,?_⟩
    simp only [hnum]
    rw [hix2,hixx]
    show dO d o2 < d x
    omega
end Go.Proofs.YtfelmdkeaacfeaaGreatDoor.W
end
