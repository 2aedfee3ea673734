/- Texts joined: Cells Sel Mn Mr. -/
import Derived.Test.YtfelmdkeaacfeaaGreatDoorTM7
import Derived.Test.YtfelmdkeaacfeaaGreatDoorTM4
import Derived.Test.YtfelmdkeaacfeaaGreatDoorTM13
import Derived.Test.YtfelmdkeaacfeaaGreatDoorTM1
import Derived.LoopTactic
set_option maxRecDepth 100000
set_option maxHeartbeats 40000000
set_option linter.unusedVariables false
set_option linter.unusedSimpArgs false
section
namespace Go.Proofs.YtfelmdkeaacfeaaGreatDoor.W
open Go.RowKit
def setAll:List Value→Nat→List Value→List Value
 | l,_,[]=>l
 | l,o,x :: r=>setAll (l.set o x) (o+1) r
theorem setAll_skip (pre rest:List Value):∀(bs:List Value) (o:Nat),setAll (pre ++ rest) (pre.length+o) bs=pre ++ setAll rest o bs:=by
 intro bs
 induction bs generalizing rest with
 | nil=>intro o;rfl
 | cons b bs ih =>
  intro o
  simp only [setAll]
  rw [List.set_append_right _ _ (by omega),show pre.length+o - pre.length=o by omega,show pre.length+o+1=pre.length+(o+1) by omega]
  exact ih _ _
theorem setAll_head:∀(xs bs rest:List Value),xs.length=bs.length→setAll (xs ++ rest) 0 bs=bs ++ rest:=by
 intro xs
 induction xs with
 | nil=>intro bs rest h;cases bs with | nil=>rfl | cons b bs=>simp at h
 | cons a xs ih =>
  intro bs rest h
  cases bs with
  | nil=>simp at h
  | cons b bs =>
   simp only [setAll,List.cons_append,List.set_cons_zero]
   have:=setAll_skip [b] (xs ++ rest) bs 0
   simp only [List.cons_append,List.nil_append,List.length_cons,List.length_nil,Nat.zero_add,Nat.add_zero] at this
   rw [Nat.zero_add,this,ih bs rest (by simpa using h)]
variable {α : Type} {enc : α → List Value} {m : Nat}
def rows (enc:α→List Value):List α→List Value
 | []=>[]
 | x :: r=>enc x ++ rows enc r
theorem rows_append (l r:List α):rows enc (l ++ r)=rows enc l ++ rows enc r:=by
 induction l with
 | nil=>rfl
 | cons x l ih=>simp [rows,ih]
theorem rows_snoc (l:List α)(x:α):rows enc (l ++ [x])=rows enc l ++ enc x:=by rw [rows_append];simp [rows]
theorem rows_at (he:∀v,(enc v).length=m)(l:List α)(i:Nat)(x:α)(h:l[i]? = some x)(j:Nat)(hj:j < m):(rows enc l)[i*m+j]? = (enc x)[j]?:=by
 induction l generalizing i with
 | nil=>simp at h
 | cons y l ih =>
  cases i with
  | zero =>
   simp at h
   subst h
   rw [Nat.zero_mul,Nat.zero_add]
   simp only [rows]
   rw [List.getElem?_append_left (by rw [he];exact hj)]
  | succ i =>
   simp at h
   simp only [rows]
   rw [List.getElem?_append_right (by rw [he,Nat.succ_mul];omega),he,show(i+1)*m+j - m=i*m+j by rw [Nat.succ_mul];omega]
   exact ih i h
theorem rows_field (he:∀v,(enc v).length=m)(l:List α)(i j:Nat)(x x':α)(u:Value)(h:l[i]? = some x)(hj:j < m)(hx:enc x'=(enc x).set j u):rows enc (l.set i x')=(rows enc l).set (i*m+j) u:=by
 induction l generalizing i with
 | nil=>simp at h
 | cons y l ih =>
  cases i with
  | zero =>
   simp at h
   subst h
   rw [Nat.zero_mul,Nat.zero_add]
   simp only [rows,List.set_cons_zero]
   rw [List.set_append_left _ _ (by rw [he];exact hj),hx]
  | succ i =>
   simp at h
   simp only [rows,List.set_cons_succ]
   rw [List.set_append_right _ _ (by rw [he,Nat.succ_mul];omega),he,show(i+1)*m+j - m=i*m+j by rw [Nat.succ_mul];omega,ih i h]
end Go.Proofs.YtfelmdkeaacfeaaGreatDoor.W
end
section
namespace Go.Proofs.YtfelmdkeaacfeaaGreatDoor.W
open Go.RowKit
structure MN where
 kind:Int
 name:List UInt8
 attrs:List Atr
 data:List UInt8
 par:Option Nat
 kids:List Nat
 gone:Bool
structure MX where
 m:MN
 av:Value
 kv:Value
def pI:Option Nat→Int
 | none=>-1
 | some p=>(p:Int)
def mxC (x:MX):List Value:=[.int .i64 x.m.kind,strV x.m.name,x.av,strV x.m.data,.int .i64 (pI x.m.par),x.kv,.bool x.m.gone]
theorem mxC_len (x:MX):(mxC x).length=7:=rfl
def kC (l:List Nat):List Value:=l.map fun(k:Nat)=>Value.int .i64 (k:Int)
structure MdW (Q:Nat) (nv:Value) (X:List MX) (w:World):Prop where
 blk:Blk w Q [nv] 84
 row:Own w 81 7 nv X.length (rows mxC X)
 att:∀x∈X,Own w 92 2 x.av x.m.attrs.length (attrC x.m.attrs)
 kid:∀x∈X,Own w 3 1 x.kv x.m.kids.length (kC x.m.kids)
theorem own_belowM {w w':World}{e size n:Nat}{v:Value}{xs:List Value}(h:Own w e size v n xs)(hb:Below w.heap.size w w'):Own w' e size v n xs:=own_keepB h hb
theorem MdW.below {Q:Nat}{nv:Value}{X:List MX}{w w':World}(h:MdW Q nv X w)(hb:Below w.heap.size w w'):MdW Q nv X w' :=
 ⟨h.blk.below hb,own_belowM h.row hb,fun x hx=>own_belowM (h.att x hx) hb,fun x hx=>own_belowM (h.kid x hx) hb⟩
theorem MdW.shape {Q:Nat}{nv:Value}{X:List MX}{w:World}(h:MdW Q nv X w)(hn:0 < X.length):∃g cap,nv=.slice (some ⟨g,0,none⟩) X.length cap:=by
 obtain⟨g,cap,e,_⟩:=own_some h.row hn
 exact⟨g,cap,e⟩
theorem MdW.ptr {Q:Nat}{nv:Value}{X:List MX}{w:World}(h:MdW Q nv X w):w.cell? ⟨Q,0,none⟩=some nv:=h.blk.cell 0
theorem MdW.cell {Q g cap:Nat}{X:List MX}{w:World}(h:MdW Q (.slice (some ⟨g,0,none⟩) X.length cap) X w){i:Nat}{x:MX}(hx:X[i]? = some x)(j:Nat)(hj:j < 7) :
  w.cell? ⟨g,i*7+j,none⟩=(mxC x)[j]?:=by
 have hl:i*7+j < X.length*7:=by have:=(List.getElem?_eq_some_iff.1 hx).1;omega
 rw [h.row.cellAt (i*7+j) hl,rows_at mxC_len X i x hx j hj]
theorem MdW.kshape {Q:Nat}{nv:Value}{X:List MX}{w:World}(h:MdW Q nv X w){x:MX}(hx:x∈X):∃a cap,x.kv=.slice a x.m.kids.length cap:=by
 obtain⟨a,cap,e⟩:=own_shape (h.kid x hx)
 exact⟨a,cap,e⟩
theorem MdW.ashape {Q:Nat}{nv:Value}{X:List MX}{w:World}(h:MdW Q nv X w){x:MX}(hx:x∈X):∃a cap,x.av=.slice a x.m.attrs.length cap:=by
 obtain⟨a,cap,e⟩:=own_shape (h.att x hx)
 exact⟨a,cap,e⟩
def ms (X:List MX):List MN:=X.map (·.m)
theorem ms_len (X:List MX):(ms X).length=X.length:=List.length_map _
theorem ms_at (X:List MX)(i:Nat):(ms X)[i]? = (X[i]?).map (·.m):=List.getElem?_map
def lv (M:List MN)(i:Nat):Option MN:=match M[i]? with | some m=>if m.gone then none else some m | none=>none
theorem lv_at {M:List MN}{i:Nat}{m:MN}(h:lv M i=some m):M[i]? = some m∧m.gone=false:=by
 unfold lv at h
 cases e:M[i]? with
 | none=>rw [e] at h;cases h
 | some x =>
  rw [e] at h
  simp only [] at h
  split at h
  ·cases h
  ·cases h;rename_i hg;exact⟨rfl,by simpa using hg⟩
theorem lv_of {M:List MN}{i:Nat}{m:MN}(h:M[i]? = some m)(hg:m.gone=false):lv M i=some m:=by
 unfold lv;rw [h];simp [hg]
theorem lv_some {X:List MX}{i:Nat}{m:MN}(h:lv (ms X) i=some m):∃x,X[i]? = some x∧x.m=m∧m.gone=false:=by
 obtain⟨h1,h2⟩:=lv_at h
 rw [ms_at,Option.map_eq_some_iff] at h1
 obtain⟨x,hx,e⟩:=h1
 exact⟨x,hx,e,h2⟩
structure MW (M:List MN) (D:Nat→Nat):Prop where
 par:∀i m p,lv M i=some m→m.par=some p→∃mp,lv M p=some mp∧i∈mp.kids∧D i=D p+1
 top:∀i m,lv M i=some m→m.par=none→D i=1
 kid:∀p mp k,lv M p=some mp→k∈mp.kids→∃mk,lv M k=some mk∧mk.par=some p
 nd:∀p mp,lv M p=some mp→mp.kids.Nodup
 low:∀i m,lv M i=some m→D i≤128
 few:M.length≤100000
def mpar (X:List MN)(i:Nat):Option Nat:=(lv X i).bind (·.par)
def mcont (X:List MN)(a:Nat):Nat→Option Nat→Bool
 | 0,_=>false
 | _,none=>false
 | f+1,some x=>a == x || mcont X a f (mpar X x)
theorem mpar_of {X:List MN}{i:Nat}{m:MN}(h:lv X i=some m):mpar X i=m.par:=by unfold mpar;rw [h];rfl
def MUse (X:List MN)(o:Option Nat):Prop:=∀i,o=some i→∃m,lv X i=some m
theorem MW.dpos {X:List MN}{D:Nat→Nat}(h:MW X D){i:Nat}{m:MN}(hi:lv X i=some m):1≤D i:=by
 cases e:m.par with
 | none=>have:=h.top i m hi e;omega
 | some p=>obtain⟨mp,_,_,hd⟩:=h.par i m p hi e;omega
theorem MW.up {X:List MN}{D:Nat→Nat}(h:MW X D){i:Nat}{m:MN}(hi:lv X i=some m):MUse X m.par∧dO D m.par+1=D i:=by
 cases e:m.par with
 | none=>exact⟨fun i hi=>(by cases hi),by have:=h.top i m hi e;simp [dO];omega⟩
 | some p =>
  obtain⟨mp,h1,_,hd⟩:=h.par i m p hi e
  exact⟨fun q hq=>(by cases hq;exact⟨mp,h1⟩),by simp [dO];omega⟩
section
variable {Q g cap : Nat} {X : List MX} {w : World} {D : Nat → Nat}
theorem at_in (a:Option Addr)(c:Nat)(l:List Nat)(i:Int)(w:World)(h:w.ownsRow 0 3 1 (.slice a l.length c) l.length (kC l))(hl:l.length≤1000000) :
  Calls Tryz.prog 96 #[.slice a l.length c,.int .i64 i] w fun e w'=>e=.returned (.int .i64 (pI (if 0≤i then l[i.toNat]? else none)))∧w'=w:=by
 by_cases h0:i < 0
 ·rw [if_neg (by omega)]
  have d0:decide (i < 0)=true:=by simpa using h0
  go_enter Tryz.func96,Tryz.ntmps96
  go_wp2_with fail
  go_ret
  exact⟨rfl,rfl⟩
 ·rw [if_pos (by omega)]
  have d0:decide (i < 0)=false:=by simpa using h0
  obtain⟨j,rfl⟩:=Int.eq_ofNat_of_zero_le (a:=i) (by omega)
  rw [Int.toNat_natCast]
  by_cases h1:j < l.length
  ·obtain⟨k,hk⟩:∃k,l[j]? = some k:=⟨_,List.getElem?_eq_getElem h1⟩
   have d1:decide ((l.length:Int)≤(j:Int))=false:=by simp;omega
   have hjl:(j:Int) < (l.length:Int):=by omega
   obtain⟨g,hg⟩:∃g,a=some ⟨g,0,none⟩:=by
    rcases h.2 with ⟨e,e2⟩ | ⟨g,cap,cur,e,_⟩
    ·omega
    ·simp only [Value.slice.injEq] at e;exact⟨g,e.1⟩
   subst hg
   have c1:=h.cells (g:=g) rfl j (.int .i64 (k:Int)) (by simp [kC,hk])
   rw [Go.WideShapes.add_plain,Nat.zero_add] at c1
   rw [hk]
   clear h hk
   go_enter Tryz.func96,Tryz.ntmps96
   go_wp2_with fail
   go_ret
   exact⟨rfl,rfl⟩
  ·have d1:decide ((l.length:Int)≤(j:Int))=true:=by simp;omega
   rw [List.getElem?_eq_none (by omega)]
   go_enter Tryz.func96,Tryz.ntmps96
   go_wp2_with fail
   go_ret
   exact⟨rfl,rfl⟩
theorem has_any (h:MdW Q (.slice (some ⟨g,0,none⟩) X.length cap) X w)(i:Nat)(hi:i≤1000000)(hX:X.length≤1000000) :
  Calls Tryz.prog 20 #[.pointer (some ⟨Q,0,none⟩),.int .i64 (i:Int)] w fun e w'=>e=.returned (.bool (lv (ms X) i).isSome)∧w'=w:=by
 have c0:=h.ptr
 cases hx:X[i]? with
 | none =>
  have hge:¬(i:Int) < (X.length:Int):=by have:=List.getElem?_eq_none_iff.1 hx;omega
  have e:(lv (ms X) i).isSome=false:=by unfold lv;rw [ms_at,hx];rfl
  rw [e]
  clear e
  go_enter Tryz.func20,Tryz.ntmps20
  go_wp2_with fail
  go_ret
  exact⟨rfl,rfl⟩
 | some x =>
  have hlt:(i:Int) < (X.length:Int):=by have:=(List.getElem?_eq_some_iff.1 hx).1;omega
  have c6:=h.cell hx 6 (by omega)
  simp only [mxC,zzD,zzE] at c6
  cases hg:x.m.gone
  ·have e:(lv (ms X) i).isSome=true:=by unfold lv;rw [ms_at,hx];simp [hg]
   rw [hg] at c6
   rw [e]
   clear e h hx hg
   go_enter Tryz.func20,Tryz.ntmps20
   go_wp2_with fail
   go_ret
   exact⟨rfl,rfl⟩
  ·have e:(lv (ms X) i).isSome=false:=by unfold lv;rw [ms_at,hx];simp [hg]
   rw [hg] at c6
   rw [e]
   clear e h hx hg
   go_enter Tryz.func20,Tryz.ntmps20
   go_wp2_with fail
   go_ret
   exact⟨rfl,rfl⟩
theorem lv_lt {i:Nat}{m:MN}(h:lv (ms X) i=some m):i < X.length:=by
 obtain⟨x,hx,_⟩:=lv_some h
 exact(List.getElem?_eq_some_iff.1 hx).1
theorem MdW.lvc (h:MdW Q (.slice (some ⟨g,0,none⟩) X.length cap) X w){i:Nat}{m:MN}(hi:lv (ms X) i=some m) :
  w.cell? ⟨g,i*7,none⟩=some (.int .i64 m.kind)∧w.cell? ⟨g,i*7+4,none⟩=some (.int .i64 (pI m.par)) ∧
   ∃a c,w.cell? ⟨g,i*7+5,none⟩=some (.slice a m.kids.length c)∧w.ownsRow 0 3 1 (.slice a m.kids.length c) m.kids.length (kC m.kids):=by
 obtain⟨x,hx,rfl,_⟩:=lv_some hi
 obtain⟨a,c,e⟩:=h.kshape (List.mem_of_getElem? hx)
 refine⟨h.cell hx 0 (by omega),h.cell hx 4 (by omega),a,c,?_,?_⟩
 ·rw [h.cell hx 5 (by omega),← e];rfl
 ·rw [← e];exact h.kid x (List.mem_of_getElem? hx)
theorem kid_get {a:Option Addr}{c:Nat}{l:List Nat}(h:w.ownsRow 0 3 1 (.slice a l.length c) l.length (kC l)){j k:Nat}(hk:l[j]? = some k):∃gk,a=some ⟨gk,0,none⟩∧w.cell? ⟨gk,j,none⟩=some (.int .i64 (k:Int)):=by
 have hl:=(List.getElem?_eq_some_iff.1 hk).1
 obtain⟨g,hg⟩:∃g,a=some ⟨g,0,none⟩:=by
  rcases h.2 with ⟨e,e2⟩ | ⟨g,cap,cur,e,_⟩
  ·omega
  ·simp only [Value.slice.injEq] at e;exact⟨g,e.1⟩
 subst hg
 have c1:=h.cells (g:=g) rfl j (.int .i64 (k:Int)) (by simp [kC,hk])
 rw [Go.WideShapes.add_plain,Nat.zero_add] at c1
 exact⟨g,rfl,c1⟩
theorem mindex_of (h:MdW Q (.slice (some ⟨g,0,none⟩) X.length cap) X w){i p j:Nat}{m mp:MN}(hf:X.length≤100000)(hnd:mp.kids.Nodup)(hkl0:mp.kids.length≤100000)(hi:lv (ms X) i=some m)(hp:m.par=some p)(hmp:lv (ms X) p=some mp)(hj:mp.kids[j]? = some i) :
  Calls Tryz.prog 51 #[.pointer (some ⟨Q,0,none⟩),.int .i64 (i:Int)] w fun e w'=>e=.returned (.int .i64 (j:Int))∧w'=w:=by
 have c0:=h.ptr
 obtain⟨_,c4,_⟩:=h.lvc hi
 obtain⟨_,_,ka,kc,c5,ho⟩:=h.lvc hmp
 rw [hp] at c4
 have c4':w.cell? ⟨g,i*7+4,none⟩=some (.int .i64 (p:Int)):=c4
 have l1:=lv_lt hi
 have l2:=lv_lt hmp
 have hlj:=(List.getElem?_eq_some_iff.1 hj).1
 obtain⟨gk,rfl,_⟩:=kid_get ho hj
 have HK:=Lib.hid (fun(t:Nat) (k:Nat) (hk:mp.kids[t]? = some k)=>kid_get ho hk)
 have HN:=Lib.hid (fun(t k:Nat) (ht:t < j) (hk:mp.kids[t]? = some k)=>(show k≠i from fun e=>by
  subst e
  have:=(List.getElem?_inj (i:=t) (j:=j) (by have:=(List.getElem?_eq_some_iff.1 hk).1;omega) hnd).1 (hk.trans hj.symm)
  omega))
 have hkl:mp.kids.length≤1000000000:=by omega
 clear c4 h hi hmp hnd ho hp
 go_enter Tryz.func51,Tryz.ntmps51
 go_wp2_with fail
 go_loopw [6] (fun iv wr=>∃t:Nat,t≤j∧iv=.int .i64 (t:Int)∧wr=w) (fun iv _=>j - intN iv)
 case atStart=>exact⟨0,by omega,rfl,rfl⟩
 case round =>
  obtain⟨t,ht,rfl,rfl⟩:=hrel
  have htl:(t:Int) < (mp.kids.length:Int):=by omega
  by_cases htj:t=j
  ·subst htj
   obtain⟨g2,e,ck⟩:=HK.out t i hj
   simp only [Option.some.injEq,Addr.mk.injEq,and_true] at e
   subst e
   clear hj
   go_wp2_with fail
   go_ret
   exact⟨rfl,rfl⟩
  ·obtain⟨k,hk⟩:∃k,mp.kids[t]? = some k:=⟨_,List.getElem?_eq_getElem (by omega)⟩
   obtain⟨g2,e,ck⟩:=HK.out t k hk
   simp only [Option.some.injEq,Addr.mk.injEq,and_true] at e
   subst e
   have hne:=HN.out t k (by omega) hk
   have e1:((k:Int) == (i:Int))=false:=by simp;omega
   clear hj hk
   go_wp2_with fail
   exact⟨⟨t+1,by omega,by first | rfl | simp,by trivial⟩,by simp only [intN];omega⟩
theorem mindex_kid (h:MdW Q (.slice (some ⟨g,0,none⟩) X.length cap) X w)(hW:MW (ms X) D){i p j:Nat}{m mp:MN}(hi:lv (ms X) i=some m)(hp:m.par=some p)(hmp:lv (ms X) p=some mp)(hj:mp.kids[j]? = some i) :
  Calls Tryz.prog 51 #[.pointer (some ⟨Q,0,none⟩),.int .i64 (i:Int)] w fun e w'=>e=.returned (.int .i64 (j:Int))∧w'=w :=
 mindex_of h (ms_len X ▸ hW.few) (hW.nd p mp hmp) (by
  have:=nodup_len X.length mp.kids (hW.nd p mp hmp) (fun k hk=>by obtain⟨mk,hmk,_⟩:=hW.kid p mp k hmp hk;exact lv_lt hmk)
  have:=hW.few
  rw [ms_len] at this
  omega) hi hp hmp hj
theorem mindex_top (h:MdW Q (.slice (some ⟨g,0,none⟩) X.length cap) X w)(hf:X.length≤100000){i:Nat}{m:MN}(hi:lv (ms X) i=some m)(hp:m.par=none) :
  Calls Tryz.prog 51 #[.pointer (some ⟨Q,0,none⟩),.int .i64 (i:Int)] w fun e w'=>e=.returned (.int .i64 (-1))∧w'=w:=by
 have c0:=h.ptr
 obtain⟨_,c4,_⟩:=h.lvc hi
 rw [hp] at c4
 have c4':w.cell? ⟨g,i*7+4,none⟩=some (.int .i64 (-1)):=c4
 have l1:=lv_lt hi
 clear c4 h hi hp
 go_enter Tryz.func51,Tryz.ntmps51
 go_wp2_with fail
 go_ret
 exact⟨rfl,rfl⟩
def intI:Value→Int
 | .int _ n=>n
 | _=>0
theorem mcontains_any (h:MdW Q (.slice (some ⟨g,0,none⟩) X.length cap) X w)(hW:MW (ms X) D)(a b:Nat)(ha:a≤1000000){mb:MN}(hb:lv (ms X) b=some mb) :
  Calls Tryz.prog 35 #[.pointer (some ⟨Q,0,none⟩),.int .i64 (a:Int),.int .i64 (b:Int)] w fun e w'=>e=.returned (.bool (mcont (ms X) a (D b) (some b)))∧w'=w:=by
 have c0:=h.ptr
 have hf:=(ms_len X ▸ hW.few)
 have HH:=Lib.hid h
 have HW:=Lib.hid hW
 have Hb:=Lib.hid hb
 clear h hW hb
 go_enter Tryz.func35,Tryz.ntmps35
 go_wp2_with fail
 go_loopw [2] (fun bv wr=>∃o:Option Nat,MUse (ms X) o∧bv=.int .i64 (pI o)∧mcont (ms X) a (D b) (some b)=mcont (ms X) a (dO D o) o∧wr=w) (fun bv _=>if 0≤intI bv then D (intI bv).toNat else 0)
 case atStart=>exact⟨some b,fun i hi=>(by cases hi;exact⟨_,Hb.out⟩),rfl,rfl,rfl⟩
 case round =>
  obtain⟨o,hu,rfl,hE,rfl⟩:=hrel
  have HE:=Lib.hid hE
  cases o with
  | none =>
   have hE0:mcont (ms X) a (D b) (some b)=false:=hE
   have HE0:=Lib.hid hE0
   clear hE hE0 hu
   rw [show pI none=-1 from rfl]
   go_wp2_with fail
   go_ret
   exact⟨by rw [HE0.out];rfl,rfl⟩
  | some x =>
   obtain⟨mx,hx⟩:=hu x rfl
   have hxl:=lv_lt hx
   obtain⟨_,c4,_⟩:=HH.out.lvc hx
   obtain⟨h1,h2⟩:=HW.out.up hx
   have hpos:=HW.out.dpos hx
   obtain⟨f,hfu⟩:∃f,D x=f+1:=⟨D x - 1,by omega⟩
   have hstep:mcont (ms X) a (D x) (some x)=(a == x || mcont (ms X) a (dO D mx.par) mx.par):=by
    rw [hfu]
    show(a == x || mcont (ms X) a f (mpar (ms X) x))=_
    rw [mpar_of hx,show f=dO D mx.par by omega]
   have HS:=Lib.hid (HE.out.trans (show mcont (ms X) a (dO D (some x)) (some x)=_ from hstep))
   rw [show pI (some x)=(x:Int) from rfl]
   clear hE hu hx hstep
   by_cases hax:a=x
   ·have e1:((a:Int) == (x:Int))=true:=by simp;omega
    have hres:mcont (ms X) a (D b) (some b)=true:=by rw [HS.out];simp [hax]
    have HRes:=Lib.hid hres
    clear hres
    go_wp2_with fail
    go_ret
    exact⟨by rw [HRes.out];rfl,rfl⟩
   ·have e1:((a:Int) == (x:Int))=false:=by simp;omega
    have hres:mcont (ms X) a (D b) (some b)=mcont (ms X) a (dO D mx.par) mx.par:=by
     rw [HS.out,beq_eq_false_iff_ne.2 hax,Bool.false_or]
    have HRes:=Lib.hid hres
    have H1:=Lib.hid h1
    clear hres h1
    go_wp2_with fail
    refine⟨⟨mx.par,H1.out,by first | rfl | trivial,HRes.out,by trivial⟩,?_⟩
    rw [if_pos (show 0≤intI (.int .i64 (x:Int)) by simp [intI])]
    cases e:mx.par with
    | none=>simp [pI,intI];omega
    | some q =>
     rw [e] at h2
     simp only [dO] at h2
     simp [pI,intI]
     omega
theorem mdepth_any (h:MdW Q (.slice (some ⟨g,0,none⟩) X.length cap) X w)(hW:MW (ms X) D)(b:Nat){mb:MN}(hb:lv (ms X) b=some mb) :
  Calls Tryz.prog 94 #[.pointer (some ⟨Q,0,none⟩),.int .i64 (b:Int)] w fun e w'=>e=.returned (.int .i64 (D b:Int))∧w'=w:=by
 have c0:=h.ptr
 have hf:=(ms_len X ▸ hW.few)
 have hlow:=hW.low b mb hb
 have HH:=Lib.hid h
 have HW:=Lib.hid hW
 have Hb:=Lib.hid hb
 clear h hW hb
 go_enter Tryz.func94,Tryz.ntmps94
 go_wp2_with fail
 go_loopw [1,5] (fun bv nv wr=>∃(o:Option Nat) (n:Nat),MUse (ms X) o∧bv=.int .i64 (pI o)∧nv=.int .i64 (n:Int)∧n+dO D o=D b∧wr=w) (fun bv _ _=>if 0≤intI bv then D (intI bv).toNat else 0)
 case atStart=>exact⟨some b,0,fun i hi=>(by cases hi;exact⟨_,Hb.out⟩),rfl,rfl,by simp [dO],rfl⟩
 case round =>
  obtain⟨o,n,hu,rfl,rfl,hE,rfl⟩:=hrel
  cases o with
  | none =>
   have hE0:n=D b:=by simpa [dO] using hE
   subst hE0
   clear hE hu
   rw [show pI none=-1 from rfl]
   go_wp2_with fail
   go_ret
   exact⟨rfl,rfl⟩
  | some x =>
   obtain⟨mx,hx⟩:=hu x rfl
   have hxl:=lv_lt hx
   obtain⟨_,c4,_⟩:=HH.out.lvc hx
   obtain⟨h1,h2⟩:=HW.out.up hx
   have hE':n+D x=D b:=hE
   rw [show pI (some x)=(x:Int) from rfl]
   have H1:=Lib.hid h1
   clear hE hu hx h1
   go_wp2_with fail
   refine⟨⟨mx.par,n+1,H1.out,by first | rfl | trivial,by first | rfl | simp,by omega,by trivial⟩,?_⟩
   rw [if_pos (show 0≤intI (.int .i64 (x:Int)) by simp [intI])]
   cases e:mx.par with
   | none=>rw [e] at h2;simp [pI,intI];simp [dO] at h2;omega
   | some q =>
    rw [e] at h2
    simp only [dO] at h2
    simp [pI,intI]
    omega
end
end Go.Proofs.YtfelmdkeaacfeaaGreatDoor.W
end
