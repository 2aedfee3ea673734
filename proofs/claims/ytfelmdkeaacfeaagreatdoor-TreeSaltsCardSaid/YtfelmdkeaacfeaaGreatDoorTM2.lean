/- Texts joined: Tre AtT Lk LkB. -/
import Derived.Test.YtfelmdkeaacfeaaGreatDoorTM1
import Derived.OwnWalk
import Derived.WalkSpells
set_option maxRecDepth 100000
set_option maxHeartbeats 40000000
set_option linter.unusedVariables false
set_option linter.unusedSimpArgs false
section
namespace Go.Proofs.YtfelmdkeaacfeaaGreatDoor.W
open Go.RowKit
structure Nd where
 kind:Int
 name:List UInt8
 av:Value
 attrs:List (List UInt8×List UInt8)
 data:List UInt8
 parent:Int
 first:Int
 last:Int
 prev:Int
 next:Int
def strV (l:List UInt8):Value:=.string ⟨l.toArray⟩
def ndC (n:Nd):List Value:=[.int .i64 n.kind,strV n.name,n.av,strV n.data,.int .i64 n.parent,.int .i64 n.first,.int .i64 n.last,.int .i64 n.prev,.int .i64 n.next]
def zeroC:List Value:=[.int .i64 0,strV [],.slice none 0 0,strV [],.int .i64 0,.int .i64 0,.int .i64 0,.int .i64 0,.int .i64 0]
def slotC:Option Nd→List Value
 | none=>.bool false :: zeroC
 | some n=>.bool true :: ndC n
theorem slotC_len (x:Option Nd):(slotC x).length=10:=by cases x <;> rfl
def rowC (l:List (Option Nd)):List Value:=l.flatMap slotC
theorem rowC_len (l:List (Option Nd)):(rowC l).length=l.length*10:=by
 induction l with
 | nil=>rfl
 | cons x l ih=>rw [rowC,List.flatMap_cons,List.length_append,slotC_len,List.length_cons];unfold rowC at ih;omega
theorem rowC_at (l:List (Option Nd))(i:Nat)(x:Option Nd)(h:l[i]? = some x)(j:Nat)(hj:j < 10):(rowC l)[i*10+j]? = (slotC x)[j]?:=by
 induction l generalizing i with
 | nil=>simp at h
 | cons y l ih =>
  rw [rowC,List.flatMap_cons]
  cases i with
  | zero =>
   simp at h;subst h
   rw [List.getElem?_append_left (by rw [slotC_len];omega)]
   congr 1;omega
  | succ i =>
   rw [List.getElem?_append_right (by rw [slotC_len];omega),slotC_len,show(i+1)*10+j - 10=i*10+j by omega]
   exact ih i (by simpa using h)
theorem rowC_set (l:List (Option Nd))(i:Nat)(x:Option Nd)(hi:i < l.length)(j:Nat)(u:Value)(hj:j < 10)(y:Option Nd)(hy:l[i]? = some y)(hx:slotC x=(slotC y).set j u):rowC (l.set i x)=(rowC l).set (i*10+j) u:=by
 induction l generalizing i with
 | nil=>simp at hi
 | cons z l ih =>
  cases i with
  | zero =>
   simp at hy;subst hy
   simp only [List.set_cons_zero,rowC,List.flatMap_cons]
   rw [hx,List.set_append_left _ _ (by rw [slotC_len];omega)]
   congr 2;omega
  | succ i =>
   simp only [List.set_cons_succ,rowC,List.flatMap_cons]
   rw [List.set_append_right _ _ (by rw [slotC_len];omega),slotC_len,show(i+1)*10+j - 10=i*10+j by omega]
   congr 1
   exact ih i (by simpa using hi) (by simpa using hy)
structure Tr where
 b:Int
 s:Int
 slots:List (Option Nd)
 free:List Nat
 root:Int
def Tr.live (S:Tr):Nat:=(S.slots.filter Option.isSome).length
def Tr.hd (S:Tr)(i:Nat):Int:=hdl S.b S.s i
def Tr.ix (S:Tr)(h:Int):Option Nat :=
 if 0≤idx S.b S.s h∧((S.slots[(idx S.b S.s h).toNat]?).map Option.isSome)=some true then some (idx S.b S.s h).toNat else none
def AttrAt (B:Nat)(w:World)(av:Value)(l:List (List UInt8×List UInt8)):Prop :=
 ∃a cap,av=.slice a l.length cap∧(l=[]∨∃g cur,a=some ⟨g,0,none⟩∧B≤g∧w.heap[g]? = some (.cells cur 91 (0,0)) ∧
  ∀i p,l[i]? = some p→cur[2*i]? = some (strV p.1)∧cur[2*i+1]? = some (strV p.2))
structure TAt (B R:Nat) (S:Tr) (sv fv:Value) (w:World):Prop where
 blk:Blk w R [.int .i64 S.b,.int .i64 S.s,sv,fv,.int .i64 S.live,.int .i64 S.root] 57
 slots:w.ownsRow B 159 10 sv S.slots.length (rowC S.slots)
 free:w.ownsRow B 3 1 fv S.free.length (S.free.map fun(i:Nat)=>Value.int .i64 (i:Int))
 attrs:∀(i:Nat) (n:Nd),S.slots[i]? = some (some n)→AttrAt B w n.av n.attrs
 base:B≤R
 few:S.slots.length≤2000000000
theorem TAt.below {B R:Nat}{S:Tr}{sv fv:Value}{w w':World}(h:TAt B R S sv fv w)(hb:Below w.heap.size w w'):TAt B R S sv fv w':=by
 have keep:∀{e sz n:Nat}{v:Value}{xs:List Value},w.ownsRow B e sz v n xs→w'.ownsRow B e sz v n xs:=fun h =>
  h.kept (row:=none) ⟨hb.os,hb.tape,hb.output,hb.size,fun k hk _=>hb.block k hk⟩ (by rename_i v _;cases e:v.ownBlock with | none=>exact Or.inl rfl | some g=>exact Or.inr (by simp))
 refine⟨h.blk.below hb,keep h.slots,keep h.free,fun i n hi=>?_,h.base,h.few⟩
 obtain⟨a,cap,e,h'⟩:=h.attrs i n hi
 refine⟨a,cap,e,h'.imp id ?_⟩
 rintro⟨g,cur,e,hB,hg,hc⟩
 exact⟨g,cur,e,hB,(hb.block g (lt_of_block hg)).trans hg,hc⟩
theorem ix_some {S:Tr}{h:Int}{i:Nat}(k:S.ix h=some i):idx S.b S.s h=(i:Int)∧i < S.slots.length∧∃n,S.slots[i]? = some (some n):=by
 unfold Tr.ix at k
 split at k
 ·rename_i c
  obtain⟨c1,c2⟩:=c
  simp only [Option.some.injEq] at k
  subst k
  rw [Option.map_eq_some_iff] at c2
  obtain⟨x,hx,hs⟩:=c2
  obtain⟨n,rfl⟩:=Option.isSome_iff_exists.1 hs
  exact⟨by omega,(List.getElem?_eq_some_iff.1 hx).1,n,hx⟩
 ·cases k
theorem ix_none {S:Tr}{h:Int}(k:S.ix h=none)(h0:0≤idx S.b S.s h)(h1:(idx S.b S.s h).toNat < S.slots.length):S.slots[(idx S.b S.s h).toNat]? = some none:=by
 unfold Tr.ix at k
 split at k
 ·cases k
 ·rename_i c
  rw [List.getElem?_eq_getElem h1] at c ⊢
  generalize S.slots[(idx S.b S.s h).toNat]=x at c ⊢
  cases x with
  | none=>rfl
  | some n=>exact absurd ⟨h0,rfl⟩ c
theorem idx_lo (b s h:Int):-1≤idx b s h:=by
 unfold idx
 have:=bnd_lo s
 split
 ·omega
 ·rename_i k
  have:0≤(h - bnd b) / bnd s:=Int.ediv_nonneg (by omega) (by omega)
  omega
theorem idx_hi (b s h:Int):idx b s h≤2147483647:=by
 unfold idx
 split <;> omega
def HOk (h:Int):Prop:=-9223372036854775808≤h∧h≤9223372036854775807
theorem len_any {B R:Nat}{S:Tr}{sv fv:Value}{w:World}(h:TAt B R S sv fv w) :
  Calls Tryz.prog 69 #[.pointer (some ⟨R,0,none⟩)] w fun e w'=>e=.returned (.int .i64 S.live)∧w'=w:=by
 have c:=h.blk.cell 4
 simp at c
 clear h
 go_enter Tryz.func69,Tryz.ntmps69
 go_wp2
 go_ret
 exact⟨rfl,rfl⟩
theorem slots_shape {B R:Nat}{S:Tr}{sv fv:Value}{w:World}(h:TAt B R S sv fv w):∃a cap,sv=.slice a S.slots.length cap:=by
 rcases h.slots.2 with ⟨rfl,e⟩ | ⟨g,cap,cur,rfl,_⟩
 ·exact⟨none,0,by rw [e]⟩
 ·exact⟨_,_,rfl⟩
theorem slots_some {B R:Nat}{S:Tr}{sv fv:Value}{w:World}(h:TAt B R S sv fv w)(hn:0 < S.slots.length):∃g cap,sv=.slice (some ⟨g,0,none⟩) S.slots.length cap:=by
 rcases h.slots.2 with ⟨_,e⟩ | ⟨g,cap,cur,rfl,_⟩
 ·omega
 ·exact⟨_,_,rfl⟩
theorem slot_cell {B R g cap:Nat}{S:Tr}{fv:Value}{w:World}(h:TAt B R S (.slice (some ⟨g,0,none⟩) S.slots.length cap) fv w){i:Nat}{x:Option Nd}(hx:S.slots[i]? = some x)(j:Nat)(hj:j < 10) :
  w.cell? ⟨g,i*10+j,none⟩=(slotC x)[j]?:=by
 have hl:j < (slotC x).length:=by rw [slotC_len];exact hj
 rw [List.getElem?_eq_getElem hl]
 have:=h.slots.cells (g:=g) rfl (i*10+j) (slotC x)[j] (by rw [rowC_at _ _ _ hx _ hj,List.getElem?_eq_getElem hl])
 rw [show(⟨g,0,none⟩:Addr).add (i*10+j)=⟨g,i*10+j,none⟩ by unfold Addr.add;split <;> simp_all] at this
 exact this
theorem find_none {B R:Nat}{S:Tr}{sv fv:Value}{w:World}(h:TAt B R S sv fv w)(hd:Int)(hh:HOk hd)(hk:S.ix hd=none) :
  Calls Tryz.prog 112 #[.pointer (some ⟨R,0,none⟩),.int .i64 hd] w fun e w'=>e=.returned (.pointer none)∧Below w.heap.size w w':=by
 have c0:=h.blk.cell 0
 have c1:=h.blk.cell 1
 have c2:=h.blk.cell 2
 have hlt:=h.blk.lt
 simp at c0 c1 c2
 have i1:=idx_lo S.b S.s hd
 have i2:=idx_hi S.b S.s hd
 have L:=ix_none hk
 clear hk
 have HI:=Lib.hid (fun W=>index_any S.b S.s hd W hh.1 hh.2)
 generalize hj:idx S.b S.s hd=j at i1 i2 L HI
 clear hj
 by_cases hneg:j < 0
 ·obtain⟨a,cap,rfl⟩:=slots_shape h
  clear L h
  go_enter Tryz.func112,Tryz.ntmps112
  go_wp2_with fail
  refine(HI.out _).mono ?_
  rintro e w2 ⟨rfl,hb2⟩
  obtain⟨hc,hf⟩:=bcell hb2
  go_wp2_with fail
  go_ret
  exact⟨rfl,hb2⟩
 ·by_cases hge:(S.slots.length:Int)≤j
  ·obtain⟨a,cap,rfl⟩:=slots_shape h
   clear L h
   go_enter Tryz.func112,Tryz.ntmps112
   go_wp2_with fail
   refine(HI.out _).mono ?_
   rintro e w2 ⟨rfl,hb2⟩
   obtain⟨hc,hf⟩:=bcell hb2
   go_wp2_with fail
   go_ret
   exact⟨rfl,hb2⟩
  ·have hx:=L (by omega) (by omega)
   obtain⟨k,rfl⟩:=Int.eq_ofNat_of_zero_le (a:=j) (by omega)
   obtain⟨g,cap,rfl⟩:=slots_some h (by omega)
   rw [Int.toNat_natCast] at hx
   have u:=slot_cell h hx 0 (by omega)
   simp only [slotC,List.getElem?_cons_zero,Nat.add_zero] at u
   have hg:=(h.slots.lt g rfl).2
   have hk1:k < S.slots.length:=by omega
   clear L h hx
   go_enter Tryz.func112,Tryz.ntmps112
   go_wp2_with fail
   refine(HI.out _).mono ?_
   rintro e w2 ⟨rfl,hb2⟩
   obtain⟨hc,hf⟩:=bcell hb2
   go_wp2_with fail
   go_ret
   exact⟨rfl,hb2⟩
theorem find_some {B R g cap:Nat}{S:Tr}{fv:Value}{w:World}(h:TAt B R S (.slice (some ⟨g,0,none⟩) S.slots.length cap) fv w)(hd:Int)(hh:HOk hd){k:Nat}(hk:S.ix hd=some k) :
  Calls Tryz.prog 112 #[.pointer (some ⟨R,0,none⟩),.int .i64 hd] w fun e w'=>e=.returned (.pointer (some ⟨g,k*10,none⟩))∧Below w.heap.size w w':=by
 have c0:=h.blk.cell 0
 have c1:=h.blk.cell 1
 have c2:=h.blk.cell 2
 have hlt:=h.blk.lt
 simp at c0 c1 c2
 obtain⟨L1,L2,n,hn⟩:=ix_some hk
 have I:=fun W=>index_any S.b S.s hd W hh.1 hh.2
 rw [L1] at I
 have HI:=Lib.hid I
 have u:=slot_cell h hn 0 (by omega)
 simp only [slotC,List.getElem?_cons_zero,Nat.add_zero] at u
 have hg:=(h.slots.lt g rfl).2
 clear I L1 hk hn h
 go_enter Tryz.func112,Tryz.ntmps112
 go_wp2_with fail
 refine(HI.out _).mono ?_
 rintro e w2 ⟨rfl,hb2⟩
 obtain⟨hc,hf⟩:=bcell hb2
 go_wp2_with fail
 go_ret
 exact⟨rfl,hb2⟩
abbrev na (g k:Nat):Addr:=⟨g,k*10+1,none⟩
theorem At_none {B R:Nat}{S:Tr}{sv fv:Value}{w:World}(h:TAt B R S sv fv w)(hd:Int)(hh:HOk hd)(hk:S.ix hd=none) :
  Calls Tryz.prog 102 #[.pointer (some ⟨R,0,none⟩),.int .i64 hd] w fun e w'=>e=.returned (.pointer none)∧Below w.heap.size w w':=by
 have HF:=Lib.hid (find_none h hd hh hk)
 clear h hk
 go_enter Tryz.func102,Tryz.ntmps102
 go_wp2_with fail
 refine HF.out.mono ?_
 rintro e w2 ⟨rfl,hb2⟩
 go_wp2_with fail
 go_ret
 exact⟨rfl,hb2⟩
theorem At_some {B R g cap:Nat}{S:Tr}{fv:Value}{w:World}(h:TAt B R S (.slice (some ⟨g,0,none⟩) S.slots.length cap) fv w)(hd:Int)(hh:HOk hd){k:Nat}(hk:S.ix hd=some k) :
  Calls Tryz.prog 102 #[.pointer (some ⟨R,0,none⟩),.int .i64 hd] w fun e w'=>e=.returned (.pointer (some (na g k)))∧Below w.heap.size w w':=by
 have HF:=Lib.hid (find_some h hd hh hk)
 obtain⟨_,_,n,hn⟩:=ix_some hk
 have u:=slot_cell h hn 0 (by omega)
 simp only [slotC,List.getElem?_cons_zero,Nat.add_zero] at u
 have hg:=(h.slots.lt g rfl).2
 clear h hk hn
 go_enter Tryz.func102,Tryz.ntmps102
 go_wp2_with fail
 refine HF.out.mono ?_
 rintro e w2 ⟨rfl,hb2⟩
 obtain⟨hc,hf⟩:=bcell hb2
 go_wp2_with fail
 go_ret
 exact⟨rfl,hb2⟩
theorem at_none {B R:Nat}{S:Tr}{sv fv:Value}{w:World}(h:TAt B R S sv fv w)(hd:Int)(hh:HOk hd)(hk:S.ix hd=none) :
  Calls Tryz.prog 52 #[.pointer (some ⟨R,0,none⟩),.int .i64 hd] w fun e w'=>e=.returned (.pointer none)∧Below w.heap.size w w':=by
 have HF:=Lib.hid (At_none h hd hh hk)
 have c0:=h.blk.cell 0
 simp at c0
 clear h hk
 go_enter Tryz.func52,Tryz.ntmps52
 go_wp2_with fail
 refine HF.out.mono ?_
 rintro e w2 ⟨rfl,hb2⟩
 go_wp2_with fail
 go_ret
 exact⟨rfl,hb2⟩
theorem at_some {B R g cap:Nat}{S:Tr}{fv:Value}{w:World}(h:TAt B R S (.slice (some ⟨g,0,none⟩) S.slots.length cap) fv w)(hd:Int)(hh:HOk hd){k:Nat}(hk:S.ix hd=some k) :
  Calls Tryz.prog 52 #[.pointer (some ⟨R,0,none⟩),.int .i64 hd] w fun e w'=>e=.returned (.pointer (some (na g k)))∧Below w.heap.size w w':=by
 have HF:=Lib.hid (At_some h hd hh hk)
 have c0:=h.blk.cell 0
 simp at c0
 clear h hk
 go_enter Tryz.func52,Tryz.ntmps52
 go_wp2_with fail
 refine HF.out.mono ?_
 rintro e w2 ⟨rfl,hb2⟩
 go_wp2_with fail
 go_ret
 exact⟨rfl,hb2⟩
/-! ### handles -/
theorem hdl_val (b s:Int)(i:Nat)(hi:i≤2000000000):hdl b s i=bnd b+bnd s*i:=by
 unfold hdl;rw [if_neg (by omega)]
theorem hdl_ok (b s:Int)(i:Nat)(hi:i≤2000000000):HOk (hdl b s i)∧1≤hdl b s i:=by
 rw [hdl_val b s i hi]
 have h1:=bnd_lo b
 have h2:=bnd_hi b
 have h3:=mul_small (bnd_lo s) (bnd_hi s) (by omega:(0:Int)≤i) (by omega)
 unfold HOk
 omega
theorem idx_hdl (b s:Int)(i:Nat)(hi:i≤2000000000):idx b s (hdl b s i)=i:=by
 rw [hdl_val b s i hi]
 have h1:=bnd_lo s
 have h2:bnd b+bnd s*(i:Int) - bnd b=bnd s*i:=by omega
 have h3:=mul_small (bnd_lo s) (bnd_hi s) (by omega:(0:Int)≤i) (by omega)
 have h4:bnd s*(i:Int) % bnd s=0:=Int.mul_emod_right _ _
 have h5:bnd s*(i:Int) / bnd s=i:=Int.mul_ediv_cancel_left _ (by omega)
 rw [idx_yes (by omega) (by rw [h2];exact h4) (by rw [h2,h5];omega),h2,h5]
theorem hdl_inj {b s:Int}{i j:Nat}(hi:i≤2000000000)(hj:j≤2000000000)(h:hdl b s i=hdl b s j):i=j:=by
 have h1:=idx_hdl b s i hi
 have h2:=idx_hdl b s j hj
 rw [h,h2] at h1
 omega
theorem ix_hd {S:Tr}{i:Nat}{n:Nd}(hf:S.slots.length≤2000000000)(h:S.slots[i]? = some (some n)):S.ix (S.hd i)=some i:=by
 have hi:=(List.getElem?_eq_some_iff.1 h).1
 unfold Tr.ix Tr.hd
 rw [idx_hdl _ _ _ (by omega),Int.toNat_natCast,h]
 simp
theorem ix_zero (S:Tr):S.ix 0=none:=by
 unfold Tr.ix
 have:idx S.b S.s 0=-1:=idx_no (Or.inl (by have:=bnd_lo S.b;omega))
 rw [this,if_neg (by omega)]
theorem hok_zero:HOk 0:=by unfold HOk;omega
def Tr.at (S:Tr)(i:Nat):Option Nd:=(S.slots[i]?).join
theorem at_slot {S:Tr}{i:Nat}{n:Nd}(h:S.at i=some n):S.slots[i]? = some (some n):=by
 unfold Tr.at at h
 cases e:S.slots[i]? with
 | none=>rw [e] at h;cases h
 | some x=>rw [e] at h;simp at h;rw [h]
theorem at_lt {S:Tr}{i:Nat}{n:Nd}(h:S.at i=some n):i < S.slots.length:=(List.getElem?_eq_some_iff.1 (at_slot h)).1
theorem at_of {S:Tr}{i:Nat}{n:Nd}(h:S.slots[i]? = some (some n)):S.at i=some n:=by unfold Tr.at;rw [h];rfl
def hO (S:Tr):Option Nat→Int
 | none=>0
 | some i=>S.hd i
structure Lk (S:Tr) (K:Nat→List Nat) (d:Nat→Nat):Prop where
 kin:∀p k,k∈K p→(S.at p).isSome=true∧(S.at k).isSome=true
 node:∀i n,S.at i=some n→n.first=hO S (K i)[0]?∧n.last=hO S (K i).getLast?
 kid:∀p j k n,(K p)[j]? = some k→S.at k=some n→n.parent=S.hd p∧n.prev=hO S (if j=0 then none else(K p)[j - 1]?)∧n.next=hO S (K p)[j+1]?
 top:∀i n,S.at i=some n→(∀p,i∉K p)→n.parent=0∧n.prev=0∧n.next=0
 nodup:∀p,(K p).Nodup
 dep:∀p k,k∈K p→d k=d p+1
 one:∀i,(S.at i).isSome=true→(∀p,i∉K p)→d i=1
 low:∀i,d i≤128
 few:S.slots.length≤1000000
theorem Lk.some {S K d}(h:Lk S K d){p j k:Nat}(hk:(K p)[j]? = some k):∃n,S.at k=some n:=Option.isSome_iff_exists.1 (h.kin p k (List.mem_of_getElem? hk)).2
theorem hd_ok {S K d}(h:Lk S K d){i:Nat}{n:Nd}(hi:S.at i=some n):HOk (S.hd i)∧1≤S.hd i:=hdl_ok _ _ _ (by have:=at_lt hi;have:=h.few;omega)
theorem hd_ix {S K d}(h:Lk S K d){i:Nat}{n:Nd}(hi:S.at i=some n):S.ix (S.hd i)=some i:=ix_hd (by have:=h.few;omega) (at_slot hi)
theorem nodup_len:∀(n:Nat) (l:List Nat),l.Nodup→(∀x∈l,x < n)→l.length≤n
 | 0,[],_,_=>Nat.le_refl _
 | 0,x :: l,_,h=>absurd (h x (by simp)) (by omega)
 | n+1,l,hn,h=>by
  have ih:=nodup_len n (l.erase n) (hn.erase n) (fun x hx=>by
   have h1:=(hn.mem_erase_iff).1 hx
   have:=h x h1.2
   omega)
  rw [List.length_erase] at ih
  split at ih <;> omega
theorem kids_len {S K d}(h:Lk S K d)(p:Nat):(K p).length≤1000000:=by
 have:=nodup_len S.slots.length (K p) (h.nodup p) (fun k hk=>by
  obtain⟨n,hn⟩:=Option.isSome_iff_exists.1 (h.kin p k hk).2
  exact at_lt hn)
 have:=h.few
 omega
theorem infoI:(Tryz.prog.info? 3).map (fun i=>(i.zero,i.size,i.bytes))=some (some (.int .i64 0),1,8):=by kernel_rfl
def hC (l:List Int):List Value:=l.map (Value.int .i64)
theorem cell_keep {w w':World}(hb:Below w.heap.size w w'){a:Addr}{v:Value}(h:w.cell? a=some v):w'.cell? a=some v:=by
 rw [hb.cell (p:=a) (World.block_lt_of_cell? w a h)];exact h
theorem own_keepB {w w':World}{B e sz n:Nat}{v:Value}{xs:List Value}(h:w.ownsRow B e sz v n xs)(hb:Below w.heap.size w w'):w'.ownsRow B e sz v n xs :=
 h.kept (row:=none) ⟨hb.os,hb.tape,hb.output,hb.size,fun k hk _=>hb.block k hk⟩ (by cases e:v.ownBlock with | none=>exact Or.inl rfl | some g=>exact Or.inr (by simp))
def slen:Value→Nat
 | .slice _ k _=>k
 | _=>0
theorem own_sl {w:World}{B e sz n:Nat}{v:Value}{xs:List Value}(h:w.ownsRow B e sz v n xs):slen v=n:=by
 rcases h.2 with ⟨rfl,e⟩ | ⟨g,cap,cur,rfl,_⟩
 ·rw [e];rfl
 ·rfl
theorem nd_cell {B R g cap:Nat}{S:Tr}{fv:Value}{w:World}(h:TAt B R S (.slice (some ⟨g,0,none⟩) S.slots.length cap) fv w){i:Nat}{n:Nd}(hn:S.at i=some n)(j:Nat)(hj:j < 9) :
  w.cell? ⟨g,i*10+1+j,none⟩=(ndC n)[j]?:=by
 have:=slot_cell h (at_slot hn) (1+j) (by omega)
 rw [← Nat.add_assoc] at this
 rw [this,Nat.add_comm 1 j]
 rfl
def KdR (w:World)(S:Tr)(l:List Nat)(ov kv:Value)(wr:World):Prop :=
 ∃(j:Nat) (v:Value),j≤l.length∧v=ov∧kv=.int .i64 (hO S l[j]?)∧wr.ownsRow w.heap.size 3 1 v j (hC ((l.take j).map S.hd))∧Below w.heap.size w wr
theorem kids_any {B R g cap:Nat}{S:Tr}{fv:Value}{w:World}{K:Nat→List Nat}{d:Nat→Nat}(h:TAt B R S (.slice (some ⟨g,0,none⟩) S.slots.length cap) fv w)(hL:Lk S K d)(i:Nat)(n:Nd)(hi:S.at i=some n) :
  Calls Tryz.prog 27 #[.pointer (some ⟨R,0,none⟩),.int .i64 (S.hd i)] w fun e w'=>∃v,e=.returned v∧w'.ownsRow w.heap.size 3 1 v (K i).length (hC ((K i).map S.hd))∧Below w.heap.size w w':=by
 have HA:=Lib.hid (at_some h (S.hd i) (hd_ok hL hi).1 (hd_ix hL hi))
 have HT:=Lib.hid h
 have HL:=Lib.hid hL
 have HI:=Lib.hid hi
 have hkl:=kids_len hL i
 have cf:=nd_cell h hi 5 (by omega)
 simp only [ndC,zzD,zzE] at cf
 obtain⟨i0,hi0,hz0,hz1,hz2⟩:=info_parts infoI
 rw [(hL.node i n hi).1] at cf
 clear h hL hi
 go_enter Tryz.func27,Tryz.ntmps27
 go_wp2_with fail
 refine HA.out.mono ?_
 rintro e w2 ⟨rfl,hb2⟩
 have cf2:=cell_keep hb2 cf
 clear cf
 go_wp2_with fail
 go_loopw [6,7] (fun ov kv wr=>KdR w S (K i) ov kv wr) (fun ov _ _=>(K i).length - slen ov)
 case atStart=>exact⟨0,_,by omega,rfl,rfl,World.ownsRow_nil _ _ _ _,hb2⟩
 case round =>
  obtain⟨j,ov,hj,rfl,rfl,hown,hB⟩:=hrel
  by_cases hlt:j < (K i).length
  ·obtain⟨k,hk⟩:∃k,(K i)[j]? = some k:=⟨_,List.getElem?_eq_getElem hlt⟩
   obtain⟨nk,hnk⟩:=HL.out.some hk
   have hpos:=(hd_ok HL.out hnk).2
   have hho:=(hd_ok HL.out hnk).1
   have HA2:=Lib.hid (fun wx (hb:Below w.heap.size w wx)=>at_some (HT.out.below hb) (S.hd k) hho (hd_ix HL.out hnk))
   have HC:=Lib.hid (fun wx (hb:Below w.heap.size w wx)=>nd_cell (HT.out.below hb) hnk 8 (by omega))
   have hnext:=(HL.out.kid i j k nk hk hnk).2.2
   have HO:=Lib.hid (show ∀A,(wr.alloc A).ownsRow w.heap.size 3 1 ov j (hC (((K i).take j).map S.hd)) from fun A=>hown.alloc A)
   have HTK:=Lib.hid (show hC (((K i).take (j+1)).map S.hd)=hC (((K i).take j).map S.hd) ++ [.int .i64 (S.hd k)] by
    unfold hC;rw [List.take_add_one,hk];simp)
   have hlt2:=fun g (hg:ov.ownBlock=some g)=>(hown.lt g hg).1
   have hne:¬S.hd k=0:=by omega
   have hne2:(S.hd k == 0)=false:=by simpa using hne
   rw [hk,show hO S (Option.some k)=S.hd k from rfl]
   have hsl:=own_sl hown
   clear hown
   generalize S.hd k=hk1 at *
   generalize hC (((K i).take j).map S.hd)=XS at *
   go_wp2_with (at_builtin;refine wpList_append_own _ rfl _ _ 31 rfl w.heap.size 3 i0 _ 1 8 Tryz.underlying31 hi0 hz0 hz1 hz2 rfl (by decide) _ j _ rfl (HO.out _) _ 1 1 [.int .i64 hk1] rfl rfl (cell_one_new _ _ _) (by simp [Value.oneCell']) ?c1 ?c2 ?c3 ?_)
   case c1=>unfold maxLen;omega
   case c2=>omega
   case c3=>have:=hB.size;simp;omega
   intro v' w5 hown5 hgr5 _
   rw [← HTK.out] at hown5
   have hB5:Below w.heap.size w w5:=(hB.alloc hB.size _).grown hgr5 (by have:=hB.size;simp;omega) hlt2
   have HW:=Lib.hid hown5
   clear hown5 hgr5
   go_wp2_with fail
   refine(HA2.out _ hB5).mono ?_
   rintro e w6 ⟨rfl,hb6⟩
   have hB6:=hB5.trans (hb6.mono hB5.size)
   have c8:=HC.out _ hB6
   rw [show(ndC nk)[8]? = Option.some (.int .i64 nk.next) from rfl,hnext] at c8
   have hsl6:=own_sl HW.out
   have HW6:=Lib.hid (own_keepB HW.out hb6)
   clear HW
   go_wp2_with fail
   exact⟨⟨j+1,_,by omega,rfl,rfl,HW6.out,hB6⟩,by rw [hsl,hsl6];omega⟩
  ·obtain rfl:j=(K i).length:=by omega
   rw [show(K i)[(K i).length]? = none from List.getElem?_eq_none (Nat.le_refl _)]
   rw [List.take_length] at hown
   have HW:=Lib.hid hown
   clear hown
   rw [show hO S none=0 from rfl]
   go_wp2_with fail
   go_ret
   exact⟨_,rfl,HW.out,hB⟩
def ptr (g:Nat):Option Nat→Value
 | none=>.pointer none
 | some k=>.pointer (some (na g k))
def UsedO (S:Tr)(o:Option Nat):Prop:=∀k,o=some k→(S.at k).isSome=true
theorem hO_ok {S K d}(h:Lk S K d){o:Option Nat}(hu:UsedO S o):HOk (hO S o):=by
 cases o with
 | none=>exact hok_zero
 | some k=>obtain⟨n,hn⟩:=Option.isSome_iff_exists.1 (hu k rfl);exact(hd_ok h hn).1
theorem hO_ix {S K d}(h:Lk S K d){o:Option Nat}(hu:UsedO S o):S.ix (hO S o)=o:=by
 cases o with
 | none=>exact ix_zero S
 | some k=>obtain⟨n,hn⟩:=Option.isSome_iff_exists.1 (hu k rfl);exact hd_ix h hn
theorem at_opt {B R g cap:Nat}{S:Tr}{fv:Value}{w:World}{K d}(h:TAt B R S (.slice (some ⟨g,0,none⟩) S.slots.length cap) fv w)(hL:Lk S K d)(o:Option Nat)(hu:UsedO S o) :
  Calls Tryz.prog 52 #[.pointer (some ⟨R,0,none⟩),.int .i64 (hO S o)] w fun e w'=>e=.returned (ptr g o)∧Below w.heap.size w w':=by
 have hix:=hO_ix hL hu
 cases o with
 | none=>exact at_none h _ (hO_ok hL hu) hix
 | some k=>exact at_some h _ (hO_ok hL hu) hix
theorem par_of {S K d}(h:Lk S K d){x:Nat}{n:Nd}(hx:S.at x=some n):∃o:Option Nat,n.parent=hO S o∧UsedO S o∧(o=none→d x=1∧∀p,x∉K p)∧(∀p,o=some p→x∈K p∧d x=d p+1):=by
 by_cases hp:∃p,x∈K p
 ·obtain⟨p,hp⟩:=hp
  obtain⟨j,hj⟩:=List.mem_iff_getElem?.1 hp
  refine⟨some p,(h.kid p j x n hj hx).1,fun k hk=>by cases hk;exact(h.kin p x hp).1,fun e=>(by cases e),fun q hq=>by cases hq;exact⟨hp,h.dep p x hp⟩⟩
 ·have hp':∀p,x∉K p:=fun p hx=>hp ⟨p,hx⟩
  exact⟨none,(h.top x n hx hp').1,fun k hk=>(by cases hk),fun _=>⟨h.one x (by rw [hx];rfl) hp',hp'⟩,fun q hq=>(by cases hq)⟩
def pv (l:List Nat)(j:Nat):Option Nat:=if j=0 then none else l[j - 1]?
def IxR (w:World)(S:Tr)(l:List Nat)(j:Nat)(cv kv:Value)(wr:World):Prop :=
 ∃c:Nat,c≤j∧cv=.int .i64 (c:Int)∧kv=.int .i64 (hO S (pv l (j - c)))∧Below w.heap.size w wr
theorem index_kid {B R g cap:Nat}{S:Tr}{fv:Value}{w:World}{K:Nat→List Nat}{d:Nat→Nat}(h:TAt B R S (.slice (some ⟨g,0,none⟩) S.slots.length cap) fv w)(hL:Lk S K d)(p j i:Nat)(hj:(K p)[j]? = some i) :
  Calls Tryz.prog 28 #[.pointer (some ⟨R,0,none⟩),.int .i64 (S.hd i)] w fun e w'=>e=.returned (.int .i64 (j:Int))∧Below w.heap.size w w':=by
 obtain⟨n,hi⟩:=hL.some hj
 have hkl:=kids_len hL p
 have hjl:j < (K p).length:=(List.getElem?_eq_some_iff.1 hj).1
 obtain⟨np,hp⟩:=Option.isSome_iff_exists.1 (hL.kin p i (List.mem_of_getElem? hj)).1
 have hne:¬S.hd p=0:=by have:=(hd_ok hL hp).2;omega
 have hne2:(S.hd p == 0)=false:=by simpa using hne
 have HA:=Lib.hid (at_some h (S.hd i) (hd_ok hL hi).1 (hd_ix hL hi))
 have HT:=Lib.hid h
 have HL:=Lib.hid hL
 have c4:=nd_cell h hi 4 (by omega)
 have c7:=nd_cell h hi 7 (by omega)
 simp only [ndC,zzD,zzE] at c4 c7
 obtain⟨k1,k2,_⟩:=hL.kid p j i n hj hi
 rw [k1] at c4
 rw [k2,show(if j=0 then none else(K p)[j - 1]?)=pv (K p) j from rfl] at c7
 generalize S.hd p=hp1 at *
 clear h hL hi k1 k2 hp
 go_enter Tryz.func28,Tryz.ntmps28
 go_wp2_with fail
 refine HA.out.mono ?_
 rintro e w2 ⟨rfl,hb2⟩
 have d4:=cell_keep hb2 c4
 have d7:=cell_keep hb2 c7
 clear c4 c7
 go_wp2_with fail
 go_loopw [6,7] (fun cv kv wr=>IxR w S (K p) j cv kv wr) (fun cv _ _=>j - (intOf cv).toNat)
 case atStart=>exact⟨0,by omega,rfl,rfl,hb2⟩
 case round =>
  obtain⟨c,hc,rfl,rfl,hB⟩:=hrel
  by_cases hlt:c < j
  ·obtain⟨k,hk⟩:∃k,(K p)[j - c - 1]? = some k:=⟨_,List.getElem?_eq_getElem (by omega)⟩
   obtain⟨nk,hnk⟩:=HL.out.some hk
   have hpv:pv (K p) (j - c)=some k:=by unfold pv;rw [if_neg (by omega)];exact hk
   have hnp:nk.prev=hO S (pv (K p) (j - (c+1))):=by
    have:=(HL.out.kid p (j - c - 1) k nk hk hnk).2.1
    rw [this];rfl
   have hpos:=(hd_ok HL.out hnk).2
   have HA2:=Lib.hid (at_some (HT.out.below hB) (S.hd k) (hd_ok HL.out hnk).1 (hd_ix HL.out hnk))
   have HC:=Lib.hid (fun wx (hb:Below w.heap.size w wx)=>nd_cell (HT.out.below hb) hnk 7 (by omega))
   have hkne:¬S.hd k=0:=by omega
   have hkne2:(S.hd k == 0)=false:=by simpa using hkne
   rw [hpv,show hO S (Option.some k)=S.hd k from rfl]
   generalize S.hd k=hk1 at *
   clear hk
   go_wp2_with fail
   refine HA2.out.mono ?_
   rintro e w6 ⟨rfl,hb6⟩
   have hB6:=hB.trans (hb6.mono hB.size)
   have c8:=HC.out _ hB6
   rw [show(ndC nk)[7]? = Option.some (.int .i64 nk.prev) from rfl,hnp] at c8
   go_wp2_with fail
   exact⟨⟨c+1,by omega,by go_num,rfl,hB6⟩,by simp [intOf];omega⟩
  ·obtain rfl:c=j:=by omega
   rw [Nat.sub_self,show hO S (pv (K p) 0)=0 from rfl]
   go_wp2_with fail
   go_ret
   exact⟨rfl,hB⟩
theorem index_top {B R g cap:Nat}{S:Tr}{fv:Value}{w:World}{K:Nat→List Nat}{d:Nat→Nat}(h:TAt B R S (.slice (some ⟨g,0,none⟩) S.slots.length cap) fv w)(hL:Lk S K d)(i:Nat)(n:Nd)(hi:S.at i=some n)(h0:n.parent=0) :
  Calls Tryz.prog 28 #[.pointer (some ⟨R,0,none⟩),.int .i64 (S.hd i)] w fun e w'=>e=.returned (.int .i64 (-1))∧Below w.heap.size w w':=by
 have HA:=Lib.hid (at_some h (S.hd i) (hd_ok hL hi).1 (hd_ix hL hi))
 have c4:=nd_cell h hi 4 (by omega)
 simp only [ndC,zzD,zzE] at c4
 rw [h0] at c4
 clear h hL hi
 go_enter Tryz.func28,Tryz.ntmps28
 go_wp2_with fail
 refine HA.out.mono ?_
 rintro e w2 ⟨rfl,hb2⟩
 have d4:=cell_keep hb2 c4
 go_wp2_with fail
 go_ret
 exact⟨rfl,hb2⟩
def DpR (w:World)(S:Tr)(g:Nat)(d:Nat→Nat)(i:Nat)(dv nv:Value)(wr:World):Prop :=
 ∃o:Option Nat,UsedO S o∧nv=ptr g o∧dv=.int .i64 ((d i - (match o with | none=>0 | some x=>d x):Nat):Int)∧(∀x,o=some x→d x≤d i)∧Below w.heap.size w wr
theorem depth_any {B R g cap:Nat}{S:Tr}{fv:Value}{w:World}{K:Nat→List Nat}{d:Nat→Nat}(h:TAt B R S (.slice (some ⟨g,0,none⟩) S.slots.length cap) fv w)(hL:Lk S K d)(i:Nat)(n:Nd)(hi:S.at i=some n) :
  Calls Tryz.prog 55 #[.pointer (some ⟨R,0,none⟩),.int .i64 (S.hd i)] w fun e w'=>e=.returned (.int .i64 (d i:Int))∧Below w.heap.size w w':=by
 have HA:=Lib.hid (at_some h (S.hd i) (hd_ok hL hi).1 (hd_ix hL hi))
 have HT:=Lib.hid h
 have HL:=Lib.hid hL
 have hlow:=hL.low
 have hui:(S.at i).isSome=true:=by rw [hi];rfl
 clear h hL hi
 go_enter Tryz.func55,Tryz.ntmps55
 go_wp2_with fail
 refine HA.out.mono ?_
 rintro e w2 ⟨rfl,hb2⟩
 go_wp2_with fail
 go_loopw [5,6] (fun dv nv wr=>DpR w S g d i dv nv wr) (fun dv nv _=>match nv with | .pointer none=>0 | _=>d i+1 - (intOf dv).toNat)
 case atStart=>exact⟨some i,fun k hk=>by cases hk;exact hui,rfl,by simp,fun x hx=>by cases hx;exact Nat.le_refl _,hb2⟩
 case round =>
  obtain⟨o,hu,rfl,rfl,hd,hB⟩:=hrel
  cases o with
  | none =>
   rw [show ptr g none=.pointer none from rfl]
   simp only [Nat.sub_zero]
   go_wp2_with fail
   go_ret
   exact⟨rfl,hB⟩
  | some x =>
   obtain⟨nx,hx⟩:=Option.isSome_iff_exists.1 (hu x rfl)
   obtain⟨o2,hpar,hu2,hn1,hn2⟩:=par_of HL.out hx
   have HA2:=Lib.hid (at_opt (HT.out.below hB) HL.out o2 hu2)
   have cx:=nd_cell (HT.out.below hB) hx 4 (by omega)
   rw [show(ndC nx)[4]? = Option.some (.int .i64 nx.parent) from rfl,hpar] at cx
   have hdx:=hd x rfl
   have hdi:=hlow i
   have hdx1:1≤d x:=by
    cases o2 with
    | none=>have:=(hn1 rfl).1;omega
    | some p=>have:=(hn2 p rfl).2;omega
   rw [show ptr g (Option.some x)=.pointer (Option.some (na g x)) from rfl]
   simp only []
   go_wp2_with fail
   refine HA2.out.mono ?_
   rintro e w6 ⟨rfl,hb6⟩
   have hB6:=hB.trans (hb6.mono hB.size)
   go_wp2_with fail
   refine⟨⟨o2,hu2,rfl,?_,?_,hB6⟩,?_⟩
   ·congr 1
    cases o2 with
    | none=>have:=(hn1 rfl).1;simp only [];omega
    | some p=>have:=(hn2 p rfl).2;simp only [];omega
   ·intro y hy
    have:=(hn2 y hy).2
    omega
   ·cases o2 with
    | none=>simp [ptr,intOf];omega
    | some p=>simp [ptr,intOf];omega
def pr (S:Tr)(i:Nat):Option Nat:=(S.at i).bind fun n=>S.ix n.parent
def contB (S:Tr)(a:Nat):Nat→Option Nat→Bool
 | 0,_=>false
 | _,none=>false
 | f+1,some x=>a == x || contB S a f (pr S x)
def dO (d:Nat→Nat):Option Nat→Nat
 | none=>0
 | some x=>d x
theorem pr_of {S K d}(h:Lk S K d){x:Nat}{n:Nd}(hx:S.at x=some n){o:Option Nat}(hp:n.parent=hO S o)(hu:UsedO S o):pr S x=o:=by
 unfold pr;rw [hx,Option.bind_some,hp,hO_ix h hu]
def CnR (w:World)(S:Tr)(g:Nat)(d:Nat→Nat)(a b:Nat)(bv nv:Value)(wr:World):Prop :=
 ∃o:Option Nat,UsedO S o∧bv=.int .i64 (hO S o)∧nv=ptr g o∧contB S a (d b) (some b)=contB S a (dO d o) o∧Below w.heap.size w wr
def hnum:Value→Int
 | .int _ n=>n
 | _=>0
theorem contains_any {B R g cap:Nat}{S:Tr}{fv:Value}{w:World}{K:Nat→List Nat}{d:Nat→Nat}(h:TAt B R S (.slice (some ⟨g,0,none⟩) S.slots.length cap) fv w)(hL:Lk S K d)(a b:Nat)(na' nb:Nd)(ha:S.at a=some na')(hb:S.at b=some nb) :
  Calls Tryz.prog 32 #[.pointer (some ⟨R,0,none⟩),.int .i64 (S.hd a),.int .i64 (S.hd b)] w fun e w'=>e=.returned (.bool (contB S a (d b) (some b)))∧Below w.heap.size w w':=by
 have HA:=Lib.hid (at_some h (S.hd a) (hd_ok hL ha).1 (hd_ix hL ha))
 have HB:=Lib.hid (fun wx (hbx:Below w.heap.size w wx)=>at_some (h.below hbx) (S.hd b) (hd_ok hL hb).1 (hd_ix hL hb))
 have HT:=Lib.hid h
 have HL:=Lib.hid hL
 have hub:(S.at b).isSome=true:=by rw [hb];rfl
 have HAA:=Lib.hid ha
 clear h hL hb ha
 go_enter Tryz.func32,Tryz.ntmps32
 go_wp2_with fail
 refine HA.out.mono ?_
 rintro e w2 ⟨rfl,hb2⟩
 go_wp2_with fail
 refine(HB.out _ hb2).mono ?_
 rintro e w3 ⟨rfl,hb3⟩
 have hB3:=hb2.trans (hb3.mono hb2.size)
 go_wp2_with fail
 go_loopw [2,7] (fun bv nv wr=>CnR w S g d a b bv nv wr) (fun bv _ _=>dO d (S.ix (hnum bv)))
 case atStart=>exact⟨some b,fun k hk=>by cases hk;exact hub,rfl,rfl,rfl,hB3⟩
 case round =>
  obtain⟨o,hu,rfl,rfl,hc,hB⟩:=hrel
  cases o with
  | none =>
   have HC:=Lib.hid hc
   clear hc
   rw [show ptr g none=.pointer none from rfl]
   go_wp2_with fail
   go_ret
   exact⟨by rw [HC.out];rfl,hB⟩
  | some x =>
   obtain⟨nx,hx⟩:=Option.isSome_iff_exists.1 (hu x rfl)
   obtain⟨o2,hpar,hu2,hn1,hn2⟩:=par_of HL.out hx
   have hpr:=pr_of HL.out hx hpar hu2
   have HA2:=Lib.hid (fun wx (hb:Below wr.heap.size wr wx)=>at_opt ((HT.out.below hB).below hb) HL.out o2 hu2)
   have cx:=nd_cell (HT.out.below hB) hx 4 (by omega)
   rw [show(ndC nx)[4]? = Option.some (.int .i64 nx.parent) from rfl,hpar] at cx
   have hdd:d x=dO d o2+1:=by
    cases o2 with
    | none=>exact(hn1 rfl).1
    | some p=>exact(hn2 p rfl).2
   have hstep:contB S a (dO d (Option.some x)) (Option.some x)=(a == x || contB S a (dO d o2) o2):=by
    show contB S a (d x) (Option.some x)=_
    rw [hdd,show contB S a (dO d o2+1) (Option.some x)=(a == x || contB S a (dO d o2) (pr S x)) from rfl,hpr]
   have hixx:S.ix (S.hd x)=Option.some x:=hd_ix HL.out hx
   have hix2:=hO_ix HL.out hu2
   rw [show ptr g (Option.some x)=.pointer (Option.some (na g x)) from rfl,show hO S (Option.some x)=S.hd x from rfl]
   have hall:=(HL.out).few
   by_cases hax:a=x
   ·subst hax
    have HC:=Lib.hid (hc.trans (hstep.trans (show _=true by simp)))
    clear hc hstep
    go_wp2_with fail
    go_ret
    exact⟨by rw [HC.out];rfl,hB⟩
   ·have hne:¬S.hd a=S.hd x:=fun e=>hax (hdl_inj (by have:=at_lt HAA.out;omega) (by have:=at_lt hx;omega) e)
    have hne2:(S.hd a == S.hd x)=false:=by simpa using hne
    have HC:=Lib.hid (hc.trans (hstep.trans (show _=contB S a (dO d o2) o2 by
     have:(a == x)=false:=by simpa using hax
     rw [this,Bool.false_or])))
    clear hc hstep
    go_wp2_with fail
    refine(HA2.out _ (Below.refl _ _)).mono ?_
    rintro e w6 ⟨rfl,hb6⟩
    have hB6:=hB.trans (hb6.mono hB.size)
    go_wp2_with fail
    refine⟨⟨o2,hu2,rfl,rfl,HC.out,hB6⟩,?_⟩
    simp only [hnum]
    rw [hix2,hixx]
    show dO d o2 < d x
    omega
end Go.Proofs.YtfelmdkeaacfeaaGreatDoor.W
end
