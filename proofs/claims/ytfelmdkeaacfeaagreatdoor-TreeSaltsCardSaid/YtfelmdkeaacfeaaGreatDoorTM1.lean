/- Texts joined: Ali RszP Mem Salt. -/
import Derived.Test.YtfelmdkeaacfeaaGreatDoorProg
import Derived.Lib.ValidLaws
import Derived.Lib.RuneBytes
import Derived.WalkKit
import Derived.BigQuiet
import Derived.Lib.Hide
import Derived.WalkSmall
import Derived.Test.YtfelmdkeaacfeaaGreatDoorRows
set_option maxRecDepth 100000
set_option maxHeartbeats 40000000
set_option linter.unusedVariables false
set_option linter.unusedSimpArgs false
section
namespace Go.Proofs.YtfelmdkeaacfeaaGreatDoor.W
theorem zzA {α : Type} {l : List α} {i : Nat} {a : α} : l.toArray.setIfInBounds i a = (l.set i a).toArray := List.setIfInBounds_toArray ..
theorem zzB {α : Type} {x : α} {l : List α} {a : α} : (x :: l).set 0 a = a :: l := List.set_cons_zero
theorem zzC {α : Type} {x : α} {l : List α} {i : Nat} {a : α} : (x :: l).set (i + 1) a = x :: l.set i a := List.set_cons_succ
theorem zzD {α : Type} {a : α} {i : Nat} {l : List α} : (a :: l)[i + 1]? = l[i]? := List.getElem?_cons_succ
theorem zzE {α : Type} {a : α} {l : List α} : (a :: l)[0]? = some a := List.getElem?_cons_zero
theorem zzF {α : Type} {a : α} {l : List α} {i : Nat} : (a :: l).take (i + 1) = a :: l.take i := List.take_succ_cons
theorem zzG {α : Type} {l : List α} : l.take 0 = [] := List.take_zero
theorem zzH {α : Type} {a : α} {l : List α} {i : Nat} : (a :: l).drop (i + 1) = l.drop i := List.drop_succ_cons
theorem zzI {α : Type} {l : List α} : l.drop 0 = l := List.drop_zero
end Go.Proofs.YtfelmdkeaacfeaaGreatDoor.W
end
section
namespace Go.Proofs.YtfelmdkeaacfeaaGreatDoor.W
open Go.RowKit
def szL (l:List UInt8):Nat:=if l=[] then 0 else if(Lib.decodeL l).1=65533∧(Lib.decodeL l).2=1 then 0 else(Lib.decodeL l).2
def inN (n i b lo hi:Nat):Bool:=decide (i < n) && (decide (lo≤b) && decide (b≤hi))
def secN (n b0 b1:Nat):Bool:=if b0=224 then inN n 1 b1 160 191 else if b0=237 then inN n 1 b1 128 159 else if b0=240 then inN n 1 b1 144 191 else if b0=244 then inN n 1 b1 128 143 else inN n 1 b1 128 191
def szN (n b0 b1 b2 b3:Nat):Nat :=
 if inN n 0 b0 0 127=true then 1
 else if(inN n 0 b0 194 223 && inN n 1 b1 128 191)=true then 2
 else if(inN n 0 b0 224 239 && secN n b0 b1 && inN n 2 b2 128 191)=true then 3
 else if(inN n 0 b0 240 244 && secN n b0 b1 && (inN n 2 b2 128 191 && inN n 3 b3 128 191))=true then 4
 else 0
theorem chk2 (n b1 b2 b3 lo hi:Nat):Lib.checkN n b1 b2 b3 2 lo hi=if n < 2∨b1 < lo∨hi < b1 then none else some 2:=by unfold Lib.checkN;rw [if_pos rfl]
theorem chk3 (n b1 b2 b3 lo hi:Nat):Lib.checkN n b1 b2 b3 3 lo hi=if n < 3∨b1 < lo∨hi < b1∨b2 < 128∨191 < b2 then none else some 3:=by unfold Lib.checkN;rw [if_neg (by omega),if_pos rfl]
theorem chk4 (n b1 b2 b3 lo hi:Nat):Lib.checkN n b1 b2 b3 4 lo hi=if n < 4∨b1 < lo∨hi < b1∨b2 < 128∨191 < b2∨b3 < 128∨191 < b3 then none else some 4:=by unfold Lib.checkN;rw [if_neg (by omega),if_neg (by omega),if_pos rfl]
theorem szN_decode (n b0 b1 b2 b3:Nat)(hn:1≤n)(h0:b0 < 256)(h1:b1 < 256)(h2:b2 < 256)(h3:b3 < 256) :
  szN n b0 b1 b2 b3=if(Lib.decodeN n b0 b1 b2 b3).1=65533∧(Lib.decodeN n b0 b1 b2 b3).2=1 then 0 else(Lib.decodeN n b0 b1 b2 b3).2:=by
 by_cases hlo:b0 < 128
 ·have e:Lib.decodeN n b0 b1 b2 b3=(b0,1):=by unfold Lib.decodeN;rw [if_pos hlo]
  rw [e,if_neg (by simp;omega)]
  unfold szN inN
  rw [if_pos (by simp;omega)]
 have key:∀sz lo hi,Lib.firstT b0 % 8=sz→Lib.accLo (Lib.firstT b0 / 16)=lo→Lib.accHi (Lib.firstT b0 / 16)=hi→szN n b0 b1 b2 b3=(match Lib.checkN n b1 b2 b3 sz lo hi with | none=>0 | some k=>k) →
   szN n b0 b1 b2 b3=if(Lib.decodeN n b0 b1 b2 b3).1=65533∧(Lib.decodeN n b0 b1 b2 b3).2=1 then 0 else(Lib.decodeN n b0 b1 b2 b3).2:=by
  intro sz lo hi e1 e2 e3 e
  rcases Lib.check_decode n b0 b1 b2 b3 hn (by omega) h0 h1 h2 h3 with ⟨hc,hd⟩ | ⟨k,hk,hc,hd⟩
  ·rw [e1,e2,e3] at hc
   rw [e,hc,hd]
   rfl
  ·rw [e1,e2,e3] at hc
   rw [e,hc,hd,if_neg (by omega)]
 by_cases c0:b0 < 194
 ·refine key 1 0 0 (by simp [Lib.firstT,hlo,c0]) (by simp [Lib.firstT,Lib.accLo,hlo,c0]) (by simp [Lib.firstT,Lib.accHi,hlo,c0]) ?_
  unfold szN inN secN Lib.checkN
  simp only [Bool.and_eq_true,decide_eq_true_eq]
  rw [if_neg (by omega),if_neg (by omega),if_neg (by omega),if_neg (by omega)]
  rfl
 by_cases c1:b0 < 224
 ·refine key 2 128 191 (by simp [Lib.firstT,hlo,c0,c1]) (by simp [Lib.firstT,Lib.accLo,hlo,c0,c1]) (by simp [Lib.firstT,Lib.accHi,hlo,c0,c1]) ?_
  rw [chk2]
  unfold szN inN secN
  simp only [Bool.and_eq_true,decide_eq_true_eq]
  rw [if_neg (by omega)]
  by_cases q:n < 2∨b1 < 128∨191 < b1
  ·rw [if_pos q,if_neg (by omega),if_neg (by omega),if_neg (by omega)]
  ·rw [if_neg q,if_pos (by omega)]
 by_cases c2:b0=224
 ·refine key 3 160 191 (by rw [c2];decide) (by rw [c2];decide) (by rw [c2];decide) ?_
  rw [chk3]
  unfold szN secN
  rw [if_pos c2]
  unfold inN
  simp only [Bool.and_eq_true,decide_eq_true_eq]
  rw [if_neg (by omega),if_neg (by omega)]
  by_cases q:n < 3∨b1 < 160∨191 < b1∨b2 < 128∨191 < b2
  ·rw [if_pos q,if_neg (by omega),if_neg (by omega)]
  ·rw [if_neg q,if_pos (by omega)]
 by_cases c3:b0 < 237
 ·refine key 3 128 191 (by simp [Lib.firstT,hlo,c0,c1,c2,c3]) (by simp [Lib.firstT,Lib.accLo,hlo,c0,c1,c2,c3]) (by simp [Lib.firstT,Lib.accHi,hlo,c0,c1,c2,c3]) ?_
  rw [chk3]
  unfold szN secN
  rw [if_neg (show ¬b0=224 by omega),if_neg (show ¬b0=237 by omega),if_neg (show ¬b0=240 by omega),if_neg (show ¬b0=244 by omega)]
  unfold inN
  simp only [Bool.and_eq_true,decide_eq_true_eq]
  rw [if_neg (by omega),if_neg (by omega)]
  by_cases q:n < 3∨b1 < 128∨191 < b1∨b2 < 128∨191 < b2
  ·rw [if_pos q,if_neg (by omega),if_neg (by omega)]
  ·rw [if_neg q,if_pos (by omega)]
 by_cases c4:b0=237
 ·refine key 3 128 159 (by rw [c4];decide) (by rw [c4];decide) (by rw [c4];decide) ?_
  rw [chk3]
  unfold szN secN
  rw [if_neg (show ¬b0=224 by omega),if_pos c4]
  unfold inN
  simp only [Bool.and_eq_true,decide_eq_true_eq]
  rw [if_neg (by omega),if_neg (by omega)]
  by_cases q:n < 3∨b1 < 128∨159 < b1∨b2 < 128∨191 < b2
  ·rw [if_pos q,if_neg (by omega),if_neg (by omega)]
  ·rw [if_neg q,if_pos (by omega)]
 by_cases c5:b0 < 240
 ·refine key 3 128 191 (by simp [Lib.firstT,hlo,c0,c1,c2,c3,c4,c5]) (by simp [Lib.firstT,Lib.accLo,hlo,c0,c1,c2,c3,c4,c5]) (by simp [Lib.firstT,Lib.accHi,hlo,c0,c1,c2,c3,c4,c5]) ?_
  rw [chk3]
  unfold szN secN
  rw [if_neg (show ¬b0=224 by omega),if_neg (show ¬b0=237 by omega),if_neg (show ¬b0=240 by omega),if_neg (show ¬b0=244 by omega)]
  unfold inN
  simp only [Bool.and_eq_true,decide_eq_true_eq]
  rw [if_neg (by omega),if_neg (by omega)]
  by_cases q:n < 3∨b1 < 128∨191 < b1∨b2 < 128∨191 < b2
  ·rw [if_pos q,if_neg (by omega),if_neg (by omega)]
  ·rw [if_neg q,if_pos (by omega)]
 by_cases c6:b0=240
 ·refine key 4 144 191 (by rw [c6];decide) (by rw [c6];decide) (by rw [c6];decide) ?_
  rw [chk4]
  unfold szN secN
  rw [if_neg (show ¬b0=224 by omega),if_neg (show ¬b0=237 by omega),if_pos c6]
  unfold inN
  simp only [Bool.and_eq_true,decide_eq_true_eq]
  rw [if_neg (by omega),if_neg (by omega),if_neg (by omega)]
  by_cases q:n < 4∨b1 < 144∨191 < b1∨b2 < 128∨191 < b2∨b3 < 128∨191 < b3
  ·rw [if_pos q,if_neg (by omega)]
  ·rw [if_neg q,if_pos (by omega)]
 by_cases c7:b0 < 244
 ·refine key 4 128 191 (by simp [Lib.firstT,hlo,c0,c1,c2,c3,c4,c5,c6,c7]) (by simp [Lib.firstT,Lib.accLo,hlo,c0,c1,c2,c3,c4,c5,c6,c7]) (by simp [Lib.firstT,Lib.accHi,hlo,c0,c1,c2,c3,c4,c5,c6,c7]) ?_
  rw [chk4]
  unfold szN secN
  rw [if_neg (show ¬b0=224 by omega),if_neg (show ¬b0=237 by omega),if_neg (show ¬b0=240 by omega),if_neg (show ¬b0=244 by omega)]
  unfold inN
  simp only [Bool.and_eq_true,decide_eq_true_eq]
  rw [if_neg (by omega),if_neg (by omega),if_neg (by omega)]
  by_cases q:n < 4∨b1 < 128∨191 < b1∨b2 < 128∨191 < b2∨b3 < 128∨191 < b3
  ·rw [if_pos q,if_neg (by omega)]
  ·rw [if_neg q,if_pos (by omega)]
 by_cases c8:b0=244
 ·refine key 4 128 143 (by rw [c8];decide) (by rw [c8];decide) (by rw [c8];decide) ?_
  rw [chk4]
  unfold szN secN
  rw [if_neg (show ¬b0=224 by omega),if_neg (show ¬b0=237 by omega),if_neg (show ¬b0=240 by omega),if_pos c8]
  unfold inN
  simp only [Bool.and_eq_true,decide_eq_true_eq]
  rw [if_neg (by omega),if_neg (by omega),if_neg (by omega)]
  by_cases q:n < 4∨b1 < 128∨143 < b1∨b2 < 128∨191 < b2∨b3 < 128∨191 < b3
  ·rw [if_pos q,if_neg (by omega)]
  ·rw [if_neg q,if_pos (by omega)]
 ·rw [Lib.decodeN_bad n b0 b1 b2 b3 (.inr ⟨by omega,h0⟩),if_pos ⟨rfl,rfl⟩]
  unfold szN inN secN
  simp only [Bool.and_eq_true,decide_eq_true_eq]
  rw [if_neg (by omega),if_neg (by omega),if_neg (by omega),if_neg (by omega)]
theorem szL_N (l:List UInt8)(hne:l≠[]):szL l=szN l.length (l.getD 0 0).toNat (l.getD 1 0).toNat (l.getD 2 0).toNat (l.getD 3 0).toNat:=by
 have hl:0 < l.length:=List.length_pos_iff.2 hne
 rw [szN_decode _ _ _ _ _ hl (l.getD 0 0).toNat_lt (l.getD 1 0).toNat_lt (l.getD 2 0).toNat_lt (l.getD 3 0).toNat_lt,← Lib.decodeL_N]
 unfold szL
 rw [if_neg hne]
theorem szL_le (l:List UInt8):szL l≤l.length:=by
 unfold szL
 split
 ·omega
 ·split
  ·omega
  ·exact Lib.decodeL_le l (by assumption)
def rfixG:Nat→List UInt8→List UInt8
 | 0,_=>[]
 | f+1,l=>if l=[] then [] else if szL l=0 then [239,191,189] ++ rfixG f (l.drop 1) else l.take (szL l) ++ rfixG f (l.drop (szL l))
def rfix (l:List UInt8):List UInt8:=rfixG l.length l
theorem rfixG_fuel:∀(n m:Nat) (l:List UInt8),l.length≤n→l.length≤m→rfixG n l=rfixG m l
 | 0,m,l,hn,_=>by
  have:l=[]:=List.eq_nil_of_length_eq_zero (by omega)
  subst this
  cases m <;> simp [rfixG]
 | n+1,0,l,_,hm=>by
  have:l=[]:=List.eq_nil_of_length_eq_zero (by omega)
  subst this
  simp [rfixG]
 | n+1,m+1,l,hn,hm=>by
  unfold rfixG
  by_cases hne:l=[]
  ·simp [hne]
  ·have hl:0 < l.length:=List.length_pos_iff.2 hne
   rw [if_neg hne,if_neg hne,rfixG_fuel n m (l.drop 1) (by rw [List.length_drop];omega) (by rw [List.length_drop];omega)]
   by_cases h0:szL l=0
   ·rw [if_pos h0,if_pos h0]
   ·rw [if_neg h0,if_neg h0,rfixG_fuel n m (l.drop (szL l)) (by rw [List.length_drop];omega) (by rw [List.length_drop];omega)]
theorem rfix_nil:rfix []=[]:=rfl
theorem rfix_step (l:List UInt8)(hne:l≠[]):rfix l=if szL l=0 then [239,191,189] ++ rfix (l.drop 1) else l.take (szL l) ++ rfix (l.drop (szL l)):=by
 have hl:0 < l.length:=List.length_pos_iff.2 hne
 obtain⟨n,hn⟩:∃n,l.length=n+1:=⟨l.length - 1,by omega⟩
 show rfixG l.length l=_
 rw [hn]
 show(if l=[] then [] else _)=_
 rw [if_neg hne]
 by_cases h0:szL l=0
 ·rw [if_pos h0,if_pos h0]
  unfold rfix
  rw [rfixG_fuel n (l.drop 1).length _ (by rw [List.length_drop];omega) (Nat.le_refl _)]
 ·rw [if_neg h0,if_neg h0]
  unfold rfix
  rw [rfixG_fuel n (l.drop (szL l)).length _ (by rw [List.length_drop];omega) (Nat.le_refl _)]
theorem rfix_valid:∀(n:Nat) (l:List UInt8),l.length≤n→(Lib.validD l=true↔rfix l=l)∧l.length≤(rfix l).length
 | 0,l,h=>by
  have:l=[]:=List.eq_nil_of_length_eq_zero (by omega)
  subst this
  exact⟨⟨fun _=>rfl,fun _=>rfl⟩,Nat.le_refl _⟩
 | n+1,l,h=>by
  by_cases hne:l=[]
  ·subst hne
   exact⟨⟨fun _=>rfl,fun _=>rfl⟩,Nat.le_refl _⟩
  ·have hl:0 < l.length:=List.length_pos_iff.2 hne
   have hw:=Lib.decodeL_width l
   rw [Lib.validD_step l hne,rfix_step l hne]
   by_cases hb:(Lib.decodeL l).1=65533∧(Lib.decodeL l).2=1
   ·have e0:szL l=0:=by unfold szL;rw [if_neg hne,if_pos hb]
    have ih:=rfix_valid n (l.drop 1) (by rw [List.length_drop];omega)
    rw [if_pos hb,if_pos e0]
    have hlen:l.length < ([239,191,189] ++ rfix (l.drop 1)).length:=by
     have:=ih.2
     rw [List.length_drop] at this
     rw [List.length_append,List.length_cons,List.length_cons,List.length_cons,List.length_nil]
     omega
    refine⟨⟨fun e=>absurd e (by simp),fun e=>?_⟩,Nat.le_of_lt hlen⟩
    rw [e] at hlen
    omega
   ·have e0:szL l=(Lib.decodeL l).2:=by unfold szL;rw [if_neg hne,if_neg hb]
    have hle:=Lib.decodeL_le l hne
    have ih:=rfix_valid n (l.drop (szL l)) (by rw [List.length_drop];omega)
    rw [if_neg hb,← e0,if_neg (by omega),ih.1]
    refine⟨⟨fun e=>?_,fun e=>?_⟩,?_⟩
    ·rw [e,List.take_append_drop]
    ·have e2:l.take (szL l) ++ rfix (l.drop (szL l))=l.take (szL l) ++ l.drop (szL l):=e.trans (List.take_append_drop _ _).symm
     exact List.append_cancel_left e2
    ·have:=ih.2
     rw [List.length_append,List.length_take]
     rw [List.length_drop] at this
     omega
theorem rfix_iff (l:List UInt8):Lib.validD l=true↔rfix l=l:=(rfix_valid l.length l (Nat.le_refl _)).1
theorem rfix_len_ge (l:List UInt8):l.length≤(rfix l).length:=(rfix_valid l.length l (Nat.le_refl _)).2
theorem rfix_len (n:Nat):∀(l:List UInt8),l.length≤n→(rfix l).length≤3*l.length:=by
 induction n with
 | zero =>
  intro l h
  have:l=[]:=List.eq_nil_of_length_eq_zero (by omega)
  subst this
  simp [rfix_nil]
 | succ n ih =>
  intro l h
  by_cases hne:l=[]
  ·subst hne;simp [rfix_nil]
  ·have hl:0 < l.length:=List.length_pos_iff.2 hne
   have hsz:=szL_le l
   rw [rfix_step l hne]
   split
   ·have:=ih (l.drop 1) (by rw [List.length_drop];omega)
    rw [List.length_append,List.length_cons,List.length_cons,List.length_cons,List.length_nil]
    rw [List.length_drop] at this
    omega
   ·have:=ih (l.drop (szL l)) (by rw [List.length_drop];omega)
    rw [List.length_append,List.length_take]
    rw [List.length_drop] at this
    omega
structure Chg (F:Nat→Prop) (w w':World):Prop where
 os:w'.os=w.os
 tape:w'.tape=w.tape
 output:w'.output=w.output
 size:w.heap.size≤w'.heap.size
 block:∀k,k < w.heap.size→¬F k→w'.heap[k]? = w.heap[k]?
theorem Chg.refl (F:Nat→Prop)(w:World):Chg F w w:=⟨rfl,rfl,rfl,Nat.le_refl _,fun _ _ _=>rfl⟩
theorem Chg.mono {F G:Nat→Prop}{w w':World}(h:Chg F w w')(k:∀i,i < w.heap.size→F i→G i):Chg G w w' :=
 ⟨h.os,h.tape,h.output,h.size,fun i hi hg=>h.block i hi (fun hf=>hg (k i hi hf))⟩
theorem Chg.trans {F G : Nat → Prop} {a b c : World} (h : Chg F a b) (k : Chg G b c) (hG : ∀ i, i < a.heap.size → G i → F i) : Chg F a c :=
  ⟨k.os.trans h.os, k.tape.trans h.tape, k.output.trans h.output, Nat.le_trans h.size k.size,
   fun i hi hf => (k.block i (Nat.lt_of_lt_of_le hi h.size) (fun hg => hf (hG i hi hg))).trans (h.block i hi hf)⟩
theorem Chg.of_below {F:Nat→Prop}{w w':World}(h:Below w.heap.size w w'):Chg F w w':=⟨h.os,h.tape,h.output,h.size,fun k hk _=>h.block k hk⟩
theorem Chg.below {F:Nat→Prop}{B:Nat}{w w':World}(h:Chg F w w')(hB:B≤w.heap.size)(hF:∀k,F k→B≤k):Below B w w' :=
 ⟨h.os,h.tape,h.output,h.size,fun k hk=>h.block k (by omega) (fun hf=>by have:=hF k hf;omega)⟩
theorem Chg.drew {F:Nat→Prop}{a w:World}(h:Chg F a w):Chg F a w.drew:=⟨h.os,h.tape,h.output,h.size,h.block⟩
theorem Chg.alloc {F:Nat→Prop}{a w:World}(h:Chg F a w)(o:Obj):Chg F a (w.alloc o) :=
 h.trans (G:=F) ⟨rfl,rfl,rfl,by simp,fun k hk _=>Below.heap_alloc _ _ _ (by omega)⟩ (fun _ _ h=>h)
theorem Chg.setCell {F:Nat→Prop}{a w:World}(h:Chg F a w)(p:Addr)(hp:p.block < a.heap.size→F p.block)(u:Value):Chg F a (w.setCell p u) :=
 h.trans (G:=fun k=>k=p.block) ⟨rfl,rfl,rfl,by simp [World.setCell],fun k _ hf=>Below.heap_setCell _ _ _ _ hf⟩ (fun i hi e=>by subst e;exact hp hi)
theorem Chg.grown {F:Nat→Prop}{a w w':World}{row:Option Nat}(h:Chg F a w)(hg:w.grownBy w' row)(hr:∀k,row=some k→k < a.heap.size→F k):Chg F a w' :=
 h.trans (G:=fun k=>row=some k) ⟨hg.os,hg.tape,hg.output,hg.size,fun k hk hf=>hg.block k hk (fun e=>hf e.symm)⟩ (fun i hi e=>hr i e hi)
theorem Below.drewN {B:Nat}{a w:World}(h:Below B a w)(n:Nat):Below B a (w.drewN n):=⟨h.os,h.tape,h.output,h.size,h.block⟩
theorem bcell {W w1:World}(hb:Below W.heap.size W w1):(∀b o,b < W.heap.size→w1.cell? ⟨b,o,none⟩=W.cell? ⟨b,o,none⟩)∧(∀b o,b < W.heap.size→w1.frozen? ⟨b,o,none⟩=W.frozen? ⟨b,o,none⟩) :=
 ⟨fun b o h=>hb.cell (p:=⟨b,o,none⟩) h,fun b o h=>hb.frozen (p:=⟨b,o,none⟩) h⟩
theorem bthen {W w1 w2:World}(h:Below W.heap.size W w1)(k:Below w1.heap.size w1 w2):Below W.heap.size W w2:=h.trans (k.mono h.size)
def Blk (w:World)(g:Nat)(cs:List Value)(t:TypeId):Prop:=w.heap[g]? = some (.cells cs.toArray t (0,0))
theorem Blk.lt {w:World}{g:Nat}{cs:List Value}{t:TypeId}(h:Blk w g cs t):g < w.heap.size:=lt_of_block h
theorem Blk.cell {w:World}{g:Nat}{cs:List Value}{t:TypeId}(h:Blk w g cs t)(j:Nat):w.cell? ⟨g,j,none⟩=cs[j]?:=by
 unfold Blk at h;simp [World.cell?,h]
theorem Blk.free {w:World}{g:Nat}{cs:List Value}{t:TypeId}(h:Blk w g cs t)(j:Nat):w.frozen? ⟨g,j,none⟩=false:=by
 unfold Blk at h;simp [World.frozen?,h]
theorem Blk.kept {w w':World}{g:Nat}{cs:List Value}{t:TypeId}(h:Blk w g cs t)(e:w'.heap[g]? = w.heap[g]?):Blk w' g cs t:=by
 unfold Blk at *;rw [e];exact h
theorem Blk.chg {F:Nat→Prop}{w w':World}{g:Nat}{cs:List Value}{t:TypeId}(h:Blk w g cs t)(k:Chg F w w')(hg:¬F g):Blk w' g cs t :=
 h.kept (k.block g h.lt hg)
theorem Blk.below {w w':World}{g:Nat}{cs:List Value}{t:TypeId}(h:Blk w g cs t)(k:Below w.heap.size w w'):Blk w' g cs t :=
 h.kept (k.block g h.lt)
theorem Blk.set {w:World}{g:Nat}{cs:List Value}{t:TypeId}(h:Blk w g cs t)(j:Nat)(u:Value):Blk (w.setCell ⟨g,j,none⟩ u) g (cs.set j u) t:=by
 have hlt:=h.lt
 unfold Blk at *
 have h':w.heap[g]=.cells cs.toArray t (0,0):=by simpa [Array.getElem?_eq_getElem hlt] using h
 show(w.heap.modify g _)[g]? = _
 rw [Array.getElem?_eq_getElem (by simpa using hlt),Array.getElem_modify_self,h']
 simp
theorem Blk.setOther {w:World}{g:Nat}{cs:List Value}{t:TypeId}(h:Blk w g cs t)(p:Addr)(hp:g≠p.block)(u:Value):Blk (w.setCell p u) g cs t :=
 h.kept (Below.heap_setCell _ _ _ _ hp)
theorem Blk.new (w:World)(cs:List Value)(t:TypeId):Blk (w.alloc (.cells cs.toArray t)) w.heap.size cs t:=heap_alloc_new w _
theorem Blk.alloc {w:World}{g:Nat}{cs:List Value}{t:TypeId}(h:Blk w g cs t)(o:Obj):Blk (w.alloc o) g cs t:=h.kept (Below.heap_alloc w o g h.lt)
abbrev Own (w:World) (e:TypeId) (size:Nat) (v:Value) (n:Nat) (xs:List Value):Prop:=w.ownsRow 0 e size v n xs
theorem own_shape {w:World}{e:TypeId}{size:Nat}{v:Value}{n:Nat}{xs:List Value}(h:Own w e size v n xs):∃a cap,v=.slice a n cap:=by
 rcases h.2 with ⟨rfl,rfl⟩ | ⟨g,cap,cur,rfl,_⟩
 ·exact⟨none,0,rfl⟩
 ·exact⟨_,_,rfl⟩
theorem own_some {w:World}{e:TypeId}{size:Nat}{v:Value}{n:Nat}{xs:List Value}(h:Own w e size v n xs)(hn:0 < n):∃g cap,v=.slice (some ⟨g,0,none⟩) n cap∧n≤cap:=by
 rcases h.2 with ⟨rfl,rfl⟩ | ⟨g,cap,cur,rfl,_,_,hc,_⟩
 ·omega
 ·exact⟨_,_,rfl,hc⟩
theorem own_lt {w:World}{e:TypeId}{size:Nat}{v:Value}{n:Nat}{xs:List Value}(h:Own w e size v n xs){k:Nat}(hk:v.ownBlock=some k):k < w.heap.size:=(h.lt k hk).2
theorem own_kept {w w':World}{e:TypeId}{size:Nat}{v:Value}{n:Nat}{xs:List Value}(h:Own w e size v n xs)(k:∀g,v.ownBlock=some g→w'.heap[g]? = w.heap[g]?):Own w' e size v n xs:=by
 refine⟨h.1,?_⟩
 rcases h.2 with hn | ⟨g,cap,cur,rfl,hb,hgg,rest⟩
 ·exact .inl hn
 ·exact .inr ⟨g,cap,cur,rfl,hb,by rw [k g rfl];exact hgg,rest⟩
theorem own_chg {F:Nat→Prop}{w w':World}{e:TypeId}{size:Nat}{v:Value}{n:Nat}{xs:List Value}(h:Own w e size v n xs)(k:Chg F w w')(hF:∀g,v.ownBlock=some g→¬F g):Own w' e size v n xs :=
 own_kept h fun g hg=>k.block g (own_lt h hg) (hF g hg)
theorem own_set {w:World}{e:TypeId}{size g n cap:Nat}{xs:List Value}(h:Own w e size (.slice (some ⟨g,0,none⟩) n cap) n xs)(j:Nat)(u:Value):Own (w.setCell ⟨g,j,none⟩ u) e size (.slice (some ⟨g,0,none⟩) n cap) n (xs.set j u):=(h.stored j u).1
theorem own_setOther {w:World}{e:TypeId}{size n:Nat}{v:Value}{xs:List Value}(h:Own w e size v n xs)(p:Addr)(hp:v.ownBlock≠some p.block)(u:Value):Own (w.setCell p u) e size v n xs :=
 own_kept h fun g hg=>Below.heap_setCell _ _ _ _ (by rintro rfl;exact hp hg)
theorem own_pop {w:World}{e:TypeId}{size g n cap:Nat}{xs:List Value}(h:Own w e size (.slice (some ⟨g,0,none⟩) (n+1) cap) (n+1) xs):Own w e size (.slice (some ⟨g,0,none⟩) n cap) n (xs.take (n*size)):=by
 obtain⟨h1,h2⟩:=h
 refine⟨by rw [List.length_take,h1];exact Nat.min_eq_left (Nat.mul_le_mul_right _ (Nat.le_succ n)),?_⟩
 rcases h2 with ⟨h',_⟩ | ⟨g',cap',cur,h',hb,hg,hc,hm,hs,ht⟩
 ·simp at h'
 ·simp only [Value.slice.injEq,Option.some.injEq,Addr.mk.injEq,and_true,true_and] at h'
  obtain⟨rfl,rfl⟩:=h'
  refine .inr ⟨g,cap,cur,rfl,hb,hg,by omega,hm,hs,?_⟩
  rw [← ht,List.take_take,Nat.min_eq_left (Nat.mul_le_mul_right _ (Nat.le_succ n))]
def bnd (n:Int):Int:=min (max n 1) 1000
theorem bnd_lo (n:Int):1≤bnd n:=by unfold bnd;omega
theorem bnd_hi (n:Int):bnd n≤1000:=by unfold bnd;omega
theorem bnd_a {n:Int}(h:n < 1):bnd n=1:=by unfold bnd;omega
theorem bnd_b {n:Int}(h2:1000 < n):bnd n=1000:=by unfold bnd;omega
theorem bnd_c {n:Int}(h:1≤n)(h2:n≤1000):bnd n=n:=by unfold bnd;omega
theorem ret_int {k:IntKind}{a b:Int}(h:a=b):Ending.returned (.int k a)=.returned (.int k b):=by rw [h]
theorem norm_cells (b s:Int)(w:World) :
  Calls Tryz.prog 130 #[.agg #[.int .i64 b,.int .i64 s]] w fun e w'=>e=.returned (.agg #[.int .i64 (bnd b),.int .i64 (bnd s)])∧Below w.heap.size w w':=by
 go_enter Tryz.func130,Tryz.ntmps130
 go_wp2
 all_goals
  refine bodyPost_ret (v:=.agg #[.int .i64 (bnd b),.int .i64 (bnd s)]) ?_ rfl ⟨rfl,((Below.refl _ _).alloc (Nat.le_refl _) _).alloc (by simp) _⟩
  first
   | rw [bnd_a (n:=b) ‹_›]
   | rw [bnd_b (n:=b) ‹_›]
   | rw [bnd_c (n:=b) ‹_› ‹_›]
  first
   | rw [bnd_a (n:=s) ‹_›]
   | rw [bnd_b (n:=s) ‹_›]
   | rw [bnd_c (n:=s) ‹_› ‹_›]
  simp [results,Tryz.results130,go_sem]
def hdl (b s slot:Int):Int:=if slot < 0∨2147483647 < slot then 0 else bnd b+bnd s*slot
def idx (b s h:Int):Int:=if h < bnd b∨(h - bnd b) % bnd s≠0∨2147483647 < (h - bnd b) / bnd s then -1 else(h - bnd b) / bnd s
theorem mul_small {a b:Int}(ha:1≤a)(ha':a≤1000)(hb:0≤b)(hb':b≤2147483647):0≤a*b∧a*b≤2147483647000:=by
 refine⟨Int.mul_nonneg (by omega) hb,?_⟩
 have h1:a*b≤1000*b:=Int.mul_le_mul_of_nonneg_right ha' hb
 omega
theorem handle_any (b s slot:Int)(w:World) :
  Calls Tryz.prog 116 #[.agg #[.int .i64 b,.int .i64 s],.int .i64 slot] w fun e w'=>e=.returned (.int .i64 (hdl b s slot))∧Below w.heap.size w w':=by
 by_cases h0:slot < 0
 ·have e0:hdl b s slot=0:=by unfold hdl;rw [if_pos (.inl h0)]
  rw [e0]
  go_enter Tryz.func116,Tryz.ntmps116
  go_wp2
  go_ret
  exact⟨rfl,(Below.refl _ _).alloc (Nat.le_refl _) _⟩
 ·by_cases h1:2147483647 < slot
  ·have e0:hdl b s slot=0:=by unfold hdl;rw [if_pos (.inr h1)]
   rw [e0]
   go_enter Tryz.func116,Tryz.ntmps116
   go_wp2
   go_ret
   exact⟨rfl,(Below.refl _ _).alloc (Nat.le_refl _) _⟩
  ·have e0:hdl b s slot=bnd b+bnd s*slot:=by unfold hdl;rw [if_neg (by omega)]
   rw [e0];clear e0
   have b1:=bnd_lo b
   have b2:=bnd_hi b
   have s1:=bnd_lo s
   have s2:=bnd_hi s
   have hm:=mul_small s1 s2 (by omega) (by omega:slot≤2147483647)
   obtain⟨hm1,hm2⟩:=hm
   go_enter Tryz.func116,Tryz.ntmps116
   go_wp2_with (go_at_call 130;refine(norm_cells b s _).mono ?_;rintro e w1 ⟨rfl,hb1⟩)
   go_ret
   refine⟨rfl,?_⟩
   exact(bthen ((Below.refl _ _).alloc (Nat.le_refl _) _) hb1).alloc (by have:=hb1.size;simp at this;omega) _
theorem idx_no {b s h:Int}(k:h < bnd b∨(h - bnd b) % bnd s≠0∨2147483647 < (h - bnd b) / bnd s):idx b s h=-1:=by
 unfold idx;rw [if_pos k]
theorem idx_yes {b s h:Int}(k1:bnd b≤h)(k2:(h - bnd b) % bnd s=0)(k3:(h - bnd b) / bnd s≤2147483647):idx b s h=(h - bnd b) / bnd s:=by
 unfold idx;rw [if_neg];rintro(h | h | h) <;> omega
theorem index_any (b s h:Int)(w:World)(h1:-9223372036854775808≤h)(h2:h≤9223372036854775807) :
  Calls Tryz.prog 113 #[.agg #[.int .i64 b,.int .i64 s],.int .i64 h] w fun e w'=>e=.returned (.int .i64 (idx b s h))∧Below w.heap.size w w':=by
 have b1:=bnd_lo b
 have b2:=bnd_hi b
 have s1:=bnd_lo s
 have s2:=bnd_hi s
 go_enter Tryz.func113,Tryz.ntmps113
 go_wp2_with (go_at_call 130;refine(norm_cells b s _).mono ?_;rintro e w1 ⟨rfl,hb1⟩)
 all_goals
  go_ret
  refine⟨ret_int ?_,(bthen ((Below.refl _ _).alloc (Nat.le_refl _) _) hb1).alloc (by have:=hb1.size;simp at this;omega) _⟩
  first
   | exact(idx_no (.inl (by omega))).symm
   | exact(idx_no (.inr (.inl (by assumption)))).symm
   | exact(idx_no (.inr (.inr (by omega)))).symm
   | exact(idx_yes (by omega) (by assumption) (by omega)).symm
end Go.Proofs.YtfelmdkeaacfeaaGreatDoor.W
end
