/- Texts joined: SetA Txt Repl Rfx. -/
import Derived.Test.YtfelmdkeaacfeaaGreatDoorTB1
import Derived.Test.YtfelmdkeaacfeaaGreatDoorTB10
import Derived.Test.YtfelmdkeaacfeaaGreatDoorTB6
import Derived.Test.YtfelmdkeaacfeaaGreatDoorTB9
import Derived.Laws.Cover1
import Derived.Test.YtfelmdkeaacfeaaGreatDoorTB8
import Derived.Lib.AppendStr
import Derived.Lib.AppendIntMem
import Derived.Laws.IdiomStrings
import Derived.Laws.BytesArg
set_option maxRecDepth 100000
set_option maxHeartbeats 40000000
set_option linter.unusedVariables false
set_option linter.unusedSimpArgs false
section
namespace Go.Proofs.YtfelmdkeaacfeaaGreatDoor.W
open Go.RowKit
theorem fZ.PI {B R g cap:Nat}{S:Tr}{fv:Value}{w w':World}(h:fZ B R S (.slice (some ⟨g,0,none⟩) S.slots.length cap) fv w){i:Nat}{n:Nd}(hi:S.at i=some n)(v:Value)(l:List jR)
  (k:dU (fun k=>k=g) w w')(hs:w'.ownsRow B 159 10 (.slice (some ⟨g,0,none⟩) S.slots.length cap) S.slots.length ((nS S.slots).set (i*10+1+2) v))(ha:jA B w' v l) :
  fZ B R (S.put i { n with av:=v,attrs:=l }) (.slice (some ⟨g,0,none⟩) (S.put i { n with av:=v,attrs:=l }).slots.length cap) fv w':=by
 have hlt:=iy hi
 have hlen:(S.put i { n with av:=v,attrs:=l }).slots.length=S.slots.length:=by unfold Tr.put;simp
 obtain⟨cur,hg⟩:∃cur,w.heap[g]? = some (.cells cur 159 (0,0)):=by
  rcases h.slots.2 with ⟨e,_⟩ | ⟨g',cap',cur,e,_,hh,_⟩
  ·cases e
  ·cases e;exact⟨cur,hh⟩
 have other:∀{k:Nat} {cs:Array Value} {t:TypeId},w.heap[k]? = some (.cells cs t (0,0))→159≠t→w'.heap[k]? = w.heap[k]?:=fun hk ht=>k.block _ (gp hk) (fun e=>dw hg hk ht e.symm)
 rw [hlen]
 refine⟨?_,?_,?_,?_,h.base,by rw [hlen];exact h.few⟩
 ·have:=h.blk.kept (other h.blk (by decide))
  rw [Jn hi]
  exact this
 ·rw [hlen]
  have e:nS (S.put i { n with av:=v,attrs:=l }).slots=(nS S.slots).set (i*10+1+2) v:=by
   have:=IX S.slots i (some { n with av:=v,attrs:=l }) hlt (1+2) v (by omega) (some n) (dN hi) rfl
   rw [← lN] at this
   exact this
  rw [e]
  exact hs
 ·obtain⟨h1,h2⟩:=h.free
  refine⟨h1,h2.imp id fun⟨g',cap',cur',e1,e2,e3,rest⟩=>⟨g',cap',cur',e1,e2,(other e3 (by decide)).trans e3,rest⟩⟩
 ·intro k m hk
  have hcase:(k=i∧m={ n with av:=v,attrs:=l })∨S.slots[k]? = some (some m):=by
   unfold Tr.put at hk
   simp only [] at hk
   by_cases e:i=k
   ·subst e
    rw [iR hlt] at hk
    left;exact⟨rfl,by simpa using hk.symm⟩
   ·rw [jM e] at hk
    right;exact hk
  rcases hcase with ⟨rfl,rfl⟩ | hk
  ·exact ha
  ·obtain⟨a,cp,e,hx⟩:=h.attrs k m hk
   exact⟨a,cp,e,hx.imp id fun⟨g',cur',e1,e2,e3,e4⟩=>⟨g',cur',e1,e2,(other e3 (by decide)).trans e3,e4⟩⟩
theorem ug (l:List jR)(x:List UInt8):mJ l x=-1∨∃(k:Nat) (y:jR),mJ l x=(k:Int)∧l[k]? = some y:=by
 unfold mJ
 cases e:l.findIdx? (fun y=>y.1 == x) with
 | none=>exact .inl rfl
 | some k =>
  rw [rW] at e
  exact .inr ⟨k,_,rfl,ay e.1⟩
theorem Gq (l:List jR)(k:Nat)(y:jR)(hy:l[k]? = some y)(v:List UInt8):cu (l.set k (y.1,v))=(cu l).set (2*k+1) (dA v):=by
 induction l generalizing k with
 | nil=>simp at hy
 | cons x l ih =>
  cases k with
  | zero=>simp at hy;subst hy;rfl
  | succ k =>
   have:=ih k (by simpa using hy)
   rw [List.set_cons_succ]
   show OX x ++ cu (l.set k (y.1,v))=(OX x ++ cu l).set (2*(k+1)+1) (dA v)
   rw [this,uU _ _ (by show 2≤_;omega)]
   show _=OX x ++ (cu l).set (2*(k+1)+1 - 2) (dA v)
   congr 2
theorem Jd {w:World}{B e sz n:Nat}{v:Value}{xs:List Value}(h:w.ownsRow B e sz v n xs):w.ownsRow B e sz v n xs:=h
theorem DI (w:World)(c:List Value){B:Nat}(hB:B≤w.heap.size)(hc:c.length=11):sG (w.alloc (.cells c.toArray 41)) B (.slice (some ⟨w.heap.size,0,none⟩) 1 1) [c]:=by
 obtain⟨h1,h2⟩:=jg (n:=1) (size:=11) (dD.new w c 41) (by omega) (by omega)
 refine⟨by simpa using h1,?_⟩
 rcases h2 with ⟨e,_⟩ | ⟨g',cap,cur,e,_,rest⟩
 ·cases e
 ·cases e;exact .inr ⟨w.heap.size,_,cur,rfl,hB,by simpa using rest⟩
theorem zC (l:List UInt8)(w:World)(hs:l.length≤100000000) :
  Calls Tryz.prog 65 #[.string ⟨l.toArray⟩] w fun e w'=>e=.returned (.int .i64 (Lib.runeCount ⟨l.toArray⟩))∧Below w.heap.size w w':=by
 have hsz0:(⟨l.toArray⟩:ByteArray).size=l.length:=by show l.toArray.size=_;simp
 have HR:=ae (fun wx=>Tryz.utf8_RuneCountInString ⟨l.toArray⟩ wx (by rw [hsz0];omega))
 go_enter Tryz.func65,Tryz.ntmps65
 go_wp2_with fail
 refine(HR.out _).mono ?_
 rintro e w1 ⟨rfl,pos,rfl⟩
 go_wp2_with fail
 go_ret
 exact⟨rfl,(ak _ _).alloc (au _) (.stringIter ⟨l.toArray⟩ pos)⟩
theorem xC (l:List UInt8):Lib.runeCount ⟨l.toArray⟩≤l.length:=by
 have:=Lib.runeCountFrom_le ⟨l.toArray⟩ (⟨l.toArray⟩:ByteArray).size 0
 have hsz0:(⟨l.toArray⟩:ByteArray).size=l.length:=by show l.toArray.size=_;simp
 unfold Lib.runeCount
 omega
def Dx (s:ByteArray)(a b:Int):Nat→Nat→Nat→Nat→Nat×Nat
 | 0,_,_,i=>(i,s.size)
 | f+1,pos,n,i=>if pos < s.size then(if(n:Int)=b then(if(n:Int)=a then pos else i,pos) else Dx s a b f (pos+(Utf8.decode s pos).2) (n+1) (if(n:Int)=a then pos else i)) else(i,s.size)
def VH (s:ByteArray)(x:Nat×Nat):List UInt8:=(s.extract x.1 x.2).data.toList
theorem Qu (s:ByteArray)(i j:Nat):(⟨(VH s (i,j)).toArray⟩:ByteArray)=s.extract i j:=rfl
def oC (l:List UInt8)(a b:Int):List UInt8 :=
 if b≤max a 0 then [] else
  VH ⟨(fix l).toArray⟩ (Dx ⟨(fix l).toArray⟩ (max a 0) b (fix l).length 0 0 (fix l).length)
theorem PH (s:ByteArray)(a b:Int)(f pos n i:Nat)(h:¬pos < s.size):Dx s a b f pos n i=(i,s.size):=by
 cases f with
 | zero=>rfl
 | succ f=>simp [Dx,h]
def Wl (w0:World)(s:ByteArray)(L:Nat)(a b:Int)(iv jv nv:Value)(wr:World):Prop :=
 ∃(pos n i f:Nat),Dx s a b f pos n i=Dx s a b L 0 0 L∧s.size≤pos+f∧iv=.int .i64 (i:Int)∧jv=.int .i64 (L:Int)∧nv=.int .i64 (n:Int)∧wr.heap[w0.heap.size]? = some (.stringIter s pos)∧Below w0.heap.size w0 wr∧i≤s.size∧n≤pos∧((n:Int)≤a∨i≤pos)∧(n:Int)≤b
theorem Fv (l:List UInt8)(a b:Int)(w:World)(hs:l.length≤20000000)(hT:Laid w) :
  Calls Tryz.prog 66 #[.string ⟨l.toArray⟩,.int .i64 a,.int .i64 b] w fun e w'=>e=.returned (.string ⟨(oC l a b).toArray⟩)∧Below w.heap.size w w':=by
 unfold oC
 have HV:=ae (nT l w (by omega) hT)
 have hfl:=mO l
 clear hT
 generalize fix l=l' at *
 have hsz:(⟨l'.toArray⟩:ByteArray).size=l'.length:=by show l'.toArray.size=_;simp
 generalize hss:(⟨l'.toArray⟩:ByteArray)=s at *
 generalize ha:max a 0=a' at *
 have ha0:0≤a':=by omega
 by_cases hab:b≤a'
 ·have d1:decide (b≤a')=true:=by simpa using hab
  go_enter Tryz.func66,Tryz.ntmps66
  go_wp2_with fail
  go_ret
  exact⟨rfl,ak _ _⟩
 ·have d1:decide (b≤a')=false:=by simpa using hab
  go_enter Tryz.func66,Tryz.ntmps66
  go_wp2_with fail
  refine HV.out.mono ?_
  rintro e w0 ⟨rfl,hb0⟩
  go_wp2_with fail
  go_loopw [7,8,9] (fun iv jv nv wr=>Wl w0 s l'.length a' b iv jv nv wr) (fun _ _ _ wr=>s.size - wr.iterPos w0.heap.size)
  case atStart =>
   refine⟨0,0,l'.length,l'.length,rfl,by omega,rfl,rfl,rfl,?_,(ak _ w0).alloc (au _) _,by omega,au _,.inl (by omega),by omega⟩
   have:=Xt w0 s 0
   simpa using this
  case round =>
   obtain⟨pos,n,i,f,hgo,hfu,rfl,rfl,rfl,hit,hbw,hi,hn,hst,hnb⟩:=hrel
   by_cases hp:pos < s.size
   ·obtain⟨f,rfl⟩:∃f',f=f'+1:=⟨f - 1,by have:=width_pos s pos hp;omega⟩
    have hgo2:=hgo
    rw [Dx,aC hp] at hgo2
    have Hgo:=ae hgo2
    clear hgo hgo2
    have hnx:∀ty,(Instr.next (.pointer (some ⟨w0.heap.size,0,none⟩)) true ty).run Tryz.prog wr=_:=fun ty=>Ac wr w0.heap.size s pos ty hit hp
    have hwd:=width_pos s pos hp
    have hd1:=decode_le s pos
    have hit2:=Ad wr w0.heap.size s pos (pos+(Utf8.decode s pos).2) hit
    have hbw2:=xm hbw (k:=w0.heap.size) (by omega) s (pos+(Utf8.decode s pos).2)
    by_cases hna:(n:Int)=a'
    ·have e1:((n:Int) == a')=true:=by simpa using hna
     by_cases hnb':(n:Int)=b
     ·omega
     ·have e2:((n:Int) == b)=false:=by simpa using hnb'
      go_wp2_with fail
      refine⟨⟨pos+(Utf8.decode s pos).2,n+1,pos,f,by have:=Hgo.out;rwa [ax hnb',aC hna] at this,by omega,rfl,rfl,by rw [← hna];rfl,hit2,hbw2,by omega,by omega,.inr (by omega),by omega⟩,?_⟩
      simp only [World.iterPos,hit2,hit]
      omega
    ·have e1:((n:Int) == a')=false:=by simpa using hna
     by_cases hnb':(n:Int)=b
     ·have e2:((n:Int) == b)=true:=by simpa using hnb'
      have hip:i≤pos:=by omega
      go_wp2_with fail
      go_ret
      have hg:=Hgo.out
      rw [aC hnb',ax hna] at hg
      (first | rw [← hg] | rw [ax (by omega),← hg])
      exact⟨by rw [Qu];rfl,hb0.trans (hbw2.mono hb0.size)⟩
     ·have e2:((n:Int) == b)=false:=by simpa using hnb'
      go_wp2_with fail
      refine⟨⟨pos+(Utf8.decode s pos).2,n+1,i,f,by have:=Hgo.out;rwa [ax hnb',ax hna] at this,by omega,rfl,rfl,rfl,hit2,hbw2,by omega,by omega,by omega,by omega⟩,?_⟩
      simp only [World.iterPos,hit2,hit]
      omega
   ·have hnx:∀ty,(Instr.next (.pointer (some ⟨w0.heap.size,0,none⟩)) true ty).run Tryz.prog wr=_:=fun ty=>Aa wr w0.heap.size s pos ty hit hp
    go_wp2_with fail
    go_ret
    rw [PH s a' b f pos n i hp] at hgo
    (first | rw [← hgo] | rw [ax (by omega),← hgo])
    exact⟨by rw [Qu,hsz];rfl,hb0.trans (hbw.mono hb0.size)⟩
theorem xR (l:List UInt8)(a b:Int):(oC l a b).length≤4*l.length:=by
 have h:=mO l
 unfold oC
 split
 ·simp
 ·generalize Dx _ _ _ _ _ _ _=x
  have hsz:(⟨(fix l).toArray⟩:ByteArray).size=(fix l).length:=by show(fix l).toArray.size=_;simp
  show((⟨(fix l).toArray⟩:ByteArray).extract x.1 x.2).size≤_
  rw [ByteArray.size_extract,hsz]
  omega
theorem pK (a b:List UInt8):(⟨a.toArray⟩:ByteArray) ++ ⟨b.toArray⟩=⟨(a ++ b).toArray⟩:=by
 apply XA
 rw [ByteArray.data_append]
 simp
theorem GM {B R g cap:Nat}{S:Tr}{fv:Value}{w:World}{K d}(h:fZ B R S (.slice (some ⟨g,0,none⟩) S.slots.length cap) fv w)(hL:Lk S K d)(i:Nat)(n:Nd)(hi:S.at i=some n)(hk:n.kind=1∨n.kind=2)(a b c:Value) :
  Calls Tryz.prog 19 #[.pointer (some ⟨R,0,none⟩),.int .i64 (S.hd i),a,b,c] w fun e w'=>e=.returned (.tuple #[.slice none 0 0,.int .i64 10])∧Below w.heap.size w w':=by
 have HA:=ae (bV h (S.hd i) (hd_ok hL hi).1 (fV hL hi))
 have c0:=bK h hi 0 (by omega)
 simp only [jd,fQ,fP] at c0
 clear h hL hi
 rcases hk with hk | hk <;> rw [hk] at c0 <;> clear hk
 ·go_enter Tryz.func19,Tryz.ntmps19
  go_wp2_with fail
  refine HA.out.mono ?_
  rintro e w2 ⟨rfl,hb2⟩
  have c1:=aU hb2 c0
  go_wp2_with fail
  go_ret2
  exact⟨rfl,hb2⟩
 ·go_enter Tryz.func19,Tryz.ntmps19
  go_wp2_with fail
  refine HA.out.mono ?_
  rintro e w2 ⟨rfl,hb2⟩
  have c1:=aU hb2 c0
  go_wp2_with fail
  go_ret2
  exact⟨rfl,hb2⟩
theorem uF (s:ByteArray)(pos:Nat):Utf8.decode s pos=Lib.decodeL (s.data.toList.drop pos):=by
 have hsz:s.data.toList.length=s.size:=by rw [Array.length_toList];rfl
 by_cases h:pos≤s.size
 ·unfold Lib.decodeL
  rw [yJ,yJ]
  have e:(⟨(s.data.toList.drop pos).toArray⟩:ByteArray).size=s.size - pos:=by
   show(s.data.toList.drop pos).toArray.size=_
   rw [gZ,aS,hsz]
  have g:∀k,(⟨(s.data.toList.drop pos).toArray⟩:ByteArray).get! k=s.get! (pos+k):=by
   intro k
   show(s.data.toList.drop pos).toArray[k]! = s.data[pos+k]!
   by_cases hk:pos+k < s.size
   ·rw [XJ _ k (by rw [gZ,aS,hsz];omega),XJ s.data (pos+k) hk,List.getElem_toArray,List.getElem_drop,Array.getElem_toList]
   ·rw [XK _ k (by rw [gZ,aS,hsz];omega),XK s.data (pos+k) hk]
  rw [e,g,g,g,g,Nat.sub_zero]
  simp only [Nat.add_zero,aJ]
 ·unfold Lib.decodeL
  rw [fK (by omega),yJ,yJ]
  have g:∀k,s.get! (pos+k)=0:=by
   intro k
   show s.data[pos+k]! = 0
   rw [XK s.data (pos+k) (by show ¬pos+k < s.size;omega)]
   rfl
  have g0:=g 0
  rw [Nat.add_zero] at g0
  rw [g0,g,g,g,show s.size - pos=0 by omega]
  rfl
theorem zN (s:ByteArray):∀(f pos:Nat),s.size≤pos+f→oJ s f pos=ik (s.data.toList.drop pos)
 | 0,pos,h=>by
  rw [fK (by rw [Array.length_toList];exact h)]
  rfl
 | f+1,pos,h=>by
  have hsz:s.data.toList.length=s.size:=by rw [Array.length_toList];rfl
  unfold oJ
  by_cases hp:pos < s.size
  ·have hne:s.data.toList.drop pos≠[]:=by
    intro e
    have:=bW List.length e
    rw [aS,hsz] at this
    simp at this
    omega
   have hw:=width_pos s pos hp
   rw [aC hp,zN s f _ (by omega),kT _ hne,uF,← qB]
   by_cases hb:(Lib.decodeL (s.data.toList.drop pos)).1=65533∧(Lib.decodeL (s.data.toList.drop pos)).2=1
   ·have e0:kS (s.data.toList.drop pos)=0:=by unfold kS;rw [ax hne,aC hb]
    rw [aC e0,hb.1,hb.2]
    rfl
   ·have e0:kS (s.data.toList.drop pos)=(Lib.decodeL (s.data.toList.drop pos)).2:=by unfold kS;rw [ax hne,ax hb]
    have hw':=XT (s.data.toList.drop pos)
    rw [ax (by omega),Lib.encode_decode _ hne hb,e0]
  ·rw [ax hp,fK (by omega)]
   rfl
theorem pY (l:List UInt8):fix l=ik l:=by
 unfold fix
 by_cases h:Lib.validD l=true
 ·rw [aC h];exact((vH l).1 h).symm
 ·rw [ax h,zN _ _ _ (by show l.toArray.size≤_;simp)]
  rfl
theorem Vg:(Tryz.prog.info? 5).map (fun i=>(i.zero,i.size,i.bytes))=some (some (.int .u8 0),1,1):=by kernel_rfl
theorem QE (w:World){B:Nat}{v:Value}{l:List UInt8}(h:w.ownsRow B 5 1 v l.length (Lib.byteCells l)) :
  (convert 122 9 v).run Tryz.prog w=.ok (.string ⟨l.toArray⟩) w:=by
 have hc:=fun g hg=>h.cells (g:=g) hg
 rcases h.2 with ⟨rfl,e⟩ | ⟨g,cap,cur,rfl,_⟩
 ·have:l=[]:=dh e
  subst this
  exact run_convert_bytes_nil w 122 5 Tryz.underlying122 Tryz.underlying5 0 0 9 Tryz.underlying9
 ·refine Yk w 122 9 5 ⟨g,0,none⟩ cap l Tryz.underlying122 Tryz.underlying5 Tryz.underlying9 (fun j hj=>?_)
  exact hc g rfl j _ (by simp [Lib.byteCells,ay hj])
def Wn (w:World)(l:List UInt8)(ov iv:Value)(wr:World):Prop :=
 ∃(i:Nat) (acc:List UInt8),i≤l.length∧iv=.int .i64 (i:Int)∧wr.ownsRow w.heap.size 5 1 ov acc.length (Lib.byteCells acc)∧acc ++ ik (l.drop i)=ik l∧Below w.heap.size w wr
theorem pU (l:List UInt8)(w:World)(hs:l.length≤100000000) :
  Calls Tryz.prog 92 #[.string ⟨l.toArray⟩] w fun e w'=>e=.returned (.string ⟨(ik l).toArray⟩)∧Below w.heap.size w w':=by
 have hsz:(⟨l.toArray⟩:ByteArray).size=l.length:=by show l.toArray.size=_;simp
 have hrl:=DD l.length l (au _)
 have HZ:=ae (fun(i:Nat) (hi:i≤l.length) wx=>size_any ⟨l.toArray⟩ i wx (by rw [hsz];omega) (by rw [hsz];exact hi))
 simp only [show(⟨l.toArray⟩:ByteArray).data.toList=l from rfl] at HZ
 have HX:=ae (fun(i n:Nat) (hi:i+n≤l.length)=>(show(⟨l.toArray⟩:ByteArray).extract i (i+n)=⟨((l.drop i).take n).toArray⟩ from by
  apply XA
  apply XP.1
  rw [Xc,Xl,List.extract_eq_take_drop]
  simp))
 obtain⟨i0,hi0,hz0,hz1,hz2⟩:=WY Vg
 generalize hss:(⟨l.toArray⟩:ByteArray)=s at *
 go_enter Tryz.func92,Tryz.ntmps92
 go_wp2_with fail
 go_loopw [3,4,5] (fun ov iv nv wr=>Wn w l ov iv wr) (fun _ iv _ _=>l.length - iW iv)
 case atStart=>exact⟨0,[],by omega,rfl,aG _ _ _ _,by simp,ak _ _⟩
 case round =>
  obtain⟨i,acc,hi,rfl,hown,hacc,hB⟩:=hrel
  have hal:acc.length≤3*l.length:=by
   have:=bW List.length hacc
   rw [aA] at this
   omega
  have HO:=ae hown
  have HA:=ae hacc
  clear hown hacc
  by_cases hlt:i < l.length
  ·have hlt2:(i:Int) < (s.size:Int):=by omega
   have HS:=ae (HZ.out i hi)
   have hle:=Gy (l.drop i)
   rw [aS] at hle
   have hne:l.drop i≠[]:=by intro e;have:=bW List.length e;rw [aS] at this;simp at this;omega
   have hst:=kT (l.drop i) hne
   rw [qB,qB] at hst
   have HE:=ae (HX.out i (kS (l.drop i)))
   generalize hzz:kS (l.drop i)=z at *
   have HST:=ae hst
   clear hst hzz
   by_cases h0:z=0
   ·subst h0
    clear HE
    go_wp2_with fail
    refine(HS.out _).mono ?_
    rintro e w1 ⟨rfl,hw⟩
    subst hw
    go_wp2_with (at_builtin;refine qo _ rfl _ _ 122 rfl w.heap.size 5 i0 _ 1 1 Tryz.underlying122 hi0 hz0 hz1 hz2 rfl (by decide) _ acc.length _ rfl (HO.out.alloc _) _ 3 3 [.int .u8 239,.int .u8 191,.int .u8 189] rfl rfl ?cc ?co ?c1 ?c2 ?c3 ?_)
    case cc=>exact iM (jg (n:=3) (size:=1) (dD.new w1 [.int .u8 239,.int .u8 191,.int .u8 189] 5) rfl (by omega))
    case co=>intro u hu;simp at hu;rcases hu with rfl | rfl | rfl <;> rfl
    case c1=>unfold maxLen;omega
    case c2=>omega
    case c3=>have:=hB.size;simp;omega
    intro v' w5 hown5 hgr5 _
    have hB5:Below w.heap.size w w5:=(hB.alloc hB.size _).grown hgr5 (by have:=hB.size;simp;omega) (fun k hk=>(HO.out.lt k hk).1)
    have HW:=ae hown5
    clear hown5 hgr5
    go_wp2_with fail
    refine⟨⟨i+1,acc ++ [239,191,189],by omega,rfl,?_,?_,hB5⟩,by simp only [iW];omega⟩
    ·rw [Xx,aA];exact HW.out
    ·rw [bu,← HA.out,HST.out];simp only [oW]
   ·have hz1':(z:Int)≠0:=by omega
    have hz2':((z:Int) == 0)=false:=by simpa using h0
    have hiz:i+z≤l.length:=by omega
    have hex:=HE.out (by omega)
    have HEX:=ae hex
    have hsl:(⟨((l.drop i).take z).toArray⟩:ByteArray).size=z:=by show((l.drop i).take z).toArray.size=_;simp;omega
    clear hex HE
    go_wp2_with fail
    refine(HS.out _).mono ?_
    rintro e w1 ⟨rfl,hw⟩
    subst hw
    go_wp2_with (at_builtin;refine Lib.wpList_append_own_string _ rfl _ _ 122 9 rfl w.heap.size 5 i0 Tryz.underlying122 Tryz.underlying9 hi0 hz0 hz1 hz2 _ acc.length _ rfl HO.out ⟨((l.drop i).take z).toArray⟩ ?cx ?c1 ?c2 hB.size ?_)
    case cx=>first | rfl | (simp only [← HEX.out];rfl)
    case c1=>rw [hsl];unfold maxLen;omega
    case c2=>rw [hsl];omega
    intro v' w5 hown5 hgr5 _
    have hB5:Below w.heap.size w w5:=hB.grown hgr5 hB.size (fun k hk=>(HO.out.lt k hk).1)
    have HW:=ae hown5
    clear hown5 hgr5
    go_wp2_with fail
    refine⟨⟨i+z,acc ++ (l.drop i).take z,by omega,rfl,?_,?_,hB5⟩,by simp only [iW];omega⟩
    ·rw [Xx,aA]
     have:=HW.out
     rw [fC,aS,show min z (l.length - i)=z by omega]
     exact this
    ·rw [bu,← HA.out,HST.out,ax h0]
  ·obtain rfl:i=l.length:=by omega
   have hlt2:¬(l.length:Int) < (s.size:Int):=by omega
   have hcv:=QE _ HO.out
   go_wp2_with fail
   go_ret
   have:=HA.out
   rw [vw,yU,aT] at this
   rw [this]
   exact⟨rfl,hB⟩
/-! ### Points, Join -/
def I9:Nat→List UInt8→List (List UInt8)
 | 0,_=>[]
 | f+1,l=>if l=[] then [] else l.take (max (kS l) 1) :: I9 f (l.drop (max (kS l) 1))
def iF (l:List UInt8):List (List UInt8):=I9 l.length l
theorem FH:∀(n m:Nat) (l:List UInt8),l.length≤n→l.length≤m→I9 n l=I9 m l
 | 0,m,l,hn,_=>by
  have:l=[]:=dh (by omega)
  subst this
  cases m <;> simp [I9]
 | n+1,0,l,_,hm=>by
  have:l=[]:=dh (by omega)
  subst this
  simp [I9]
 | n+1,m+1,l,hn,hm=>by
  unfold I9
  by_cases hne:l=[]
  ·simp [hne]
  ·have hl:0 < l.length:=gz.2 hne
   rw [ax hne,ax hne,FH n m _ (by rw [aS];omega) (by rw [aS];omega)]
theorem vK:iF []=[]:=rfl
theorem qL (l:List UInt8)(hne:l≠[]):iF l=l.take (max (kS l) 1) :: iF (l.drop (max (kS l) 1)):=by
 have hl:0 < l.length:=gz.2 hne
 obtain⟨n,hn⟩:∃n,l.length=n+1:=⟨l.length - 1,by omega⟩
 show I9 l.length l=_
 rw [hn]
 show(if l=[] then [] else _)=_
 rw [ax hne]
 unfold iF
 rw [FH n (l.drop (max (kS l) 1)).length _ (by rw [aS];omega) (au _)]
theorem PN (n:Nat):∀(l:List UInt8),l.length≤n→(iF l).length≤l.length:=by
 induction n with
 | zero =>
  intro l h
  have:l=[]:=dh (by omega)
  subst this
  simp [vK]
 | succ n ih =>
  intro l h
  by_cases hne:l=[]
  ·subst hne;simp [vK]
  ·have hl:0 < l.length:=gz.2 hne
   rw [qL l hne,List.length_cons]
   have:=ih (l.drop (max (kS l) 1)) (by rw [aS];omega)
   rw [aS] at this
   omega
theorem Aw (n:Nat):∀(l:List UInt8),l.length≤n→(iF l).flatten=l:=by
 induction n with
 | zero =>
  intro l h
  have:l=[]:=dh (by omega)
  subst this
  rfl
 | succ n ih =>
  intro l h
  by_cases hne:l=[]
  ·subst hne;rfl
  ·have hl:0 < l.length:=gz.2 hne
   rw [qL l hne,List.flatten_cons,ih _ (by rw [aS];omega),bG]
theorem Vh:(Tryz.prog.info? 9).map (fun i=>(i.zero,i.size,i.bytes))=some (some (.string ⟨#[]⟩),1,16):=by kernel_rfl
def sC (l:List (List UInt8)):List Value:=l.map dA
def Wq (w:World)(l:List UInt8)(ov iv:Value)(wr:World):Prop :=
 ∃(i:Nat) (acc:List (List UInt8)),i≤l.length∧acc.length≤i∧iv=.int .i64 (i:Int)∧wr.ownsRow w.heap.size 9 1 ov acc.length (sC acc)∧acc ++ iF (l.drop i)=iF l∧Below w.heap.size w wr
theorem DJ (l:List UInt8)(w:World)(hs:l.length≤1000000) :
  Calls Tryz.prog 99 #[.string ⟨l.toArray⟩] w fun e w'=>∃v,e=.returned v∧w'.ownsRow w.heap.size 9 1 v (iF l).length (sC (iF l))∧Below w.heap.size w w':=by
 have hsz:(⟨l.toArray⟩:ByteArray).size=l.length:=by show l.toArray.size=_;simp
 have HZ:=ae (fun(i:Nat) (hi:i≤l.length) wx=>size_any ⟨l.toArray⟩ i wx (by rw [hsz];omega) (by rw [hsz];exact hi))
 simp only [show(⟨l.toArray⟩:ByteArray).data.toList=l from rfl] at HZ
 have HX:=ae (fun(i n:Nat) (hi:i+n≤l.length)=>(show(⟨l.toArray⟩:ByteArray).extract i (i+n)=⟨((l.drop i).take n).toArray⟩ from by
  apply XA
  apply XP.1
  rw [Xc,Xl,List.extract_eq_take_drop]
  simp))
 obtain⟨i0,hi0,hz0,hz1,hz2⟩:=WY Vh
 generalize hss:(⟨l.toArray⟩:ByteArray)=s at *
 go_enter Tryz.func99,Tryz.ntmps99
 go_wp2_with fail
 go_loopw [3,4,5] (fun ov iv nv wr=>Wq w l ov iv wr) (fun _ iv _ _=>l.length - iW iv)
 case atStart=>exact⟨0,[],by omega,by simp,rfl,aG _ _ _ _,by simp,ak _ _⟩
 case round =>
  obtain⟨i,acc,hi,hal,rfl,hown,hacc,hB⟩:=hrel
  have HO:=ae hown
  have HA:=ae hacc
  clear hown hacc
  by_cases hlt:i < l.length
  ·have hlt2:(i:Int) < (s.size:Int):=by omega
   have HS:=ae (HZ.out i hi)
   have hle:=Gy (l.drop i)
   rw [aS] at hle
   have hne:l.drop i≠[]:=by intro e;have:=bW List.length e;rw [aS] at this;simp at this;omega
   have hst:=qL (l.drop i) hne
   rw [qB] at hst
   generalize kS (l.drop i)=z at *
   have hmx:max ((z:Nat):Int) 1=((max z 1:Nat):Int):=by omega
   obtain⟨y,hy⟩:∃y,y=max z 1:=⟨_,rfl⟩
   rw [← hy] at hst hmx
   have hiy:i+y≤l.length:=by omega
   have hy1:1≤y:=by omega
   have hex:=HX.out i y hiy
   have HEX:=ae hex
   have HST:=ae hst
   clear hst hex hy
   go_wp2_with fail
   refine(HS.out _).mono ?_
   rintro e w1 ⟨rfl,hw⟩
   subst hw
   have hex:=HEX.out
   go_wp2_with (at_builtin;refine qo _ rfl _ _ 147 rfl w.heap.size 9 i0 _ 1 16 Tryz.underlying147 hi0 hz0 hz1 hz2 rfl (by decide) _ acc.length _ rfl (HO.out.alloc _) _ 1 1 [.string ⟨((l.drop i).take y).toArray⟩] rfl rfl ?cc ?co ?c1 ?c2 ?c3 ?_)
   case cc=>rw [← HEX.out];exact iM (jg (n:=1) (size:=1) (dD.new w1 [.string (s.extract i (i+y))] 9) rfl (by omega))
   case co=>intro u hu;simp at hu;rcases hu with rfl;rfl
   case c1=>unfold maxLen;omega
   case c2=>omega
   case c3=>have:=hB.size;simp;omega
   intro v' w5 hown5 hgr5 _
   have hB5:Below w.heap.size w w5:=(hB.alloc hB.size _).grown hgr5 (by have:=hB.size;simp;omega) (fun k hk=>(HO.out.lt k hk).1)
   have HW:=ae hown5
   clear hown5 hgr5
   go_wp2_with fail
   refine⟨⟨i+y,acc ++ [(l.drop i).take y],by omega,by simp;omega,by simp,?_,?_,hB5⟩,by simp only [iW];omega⟩
   ·rw [aA,List.length_singleton,show sC (acc ++ [(l.drop i).take y])=sC acc ++ [.string ⟨((l.drop i).take y).toArray⟩] by simp [sC,dA]]
    exact HW.out
   ·rw [bu,← HA.out,HST.out]
    rfl
  ·obtain rfl:i=l.length:=by omega
   have hlt2:¬(l.length:Int) < (s.size:Int):=by omega
   have e:=HA.out
   rw [vw,vK,aT] at e
   subst e
   go_wp2_with fail
   go_ret
   exact⟨_,rfl,HO.out,hB⟩
def joinL (P:List (List UInt8))(a b:Nat):List UInt8:=((P.take b).drop a).flatten
theorem uy (P:List (List UInt8))(a b:Nat)(h:b≤a∨P.length≤a):joinL P a b=[]:=by
 unfold joinL
 rw [fK (by rw [fC];omega)]
 rfl
theorem Lm (P:List (List UInt8))(a i b:Nat)(x:List UInt8)(hai:a≤i)(hib:i < b)(hx:P[i]? = some x):joinL P a (i+1)=joinL P a i ++ x:=by
 unfold joinL
 rw [fJ,hx,List.drop_append_of_le_length (by have:=(ai.1 hx).1;rw [fC];omega),nR]
 simp
theorem Jv:∀(P:List (List UInt8)) (k:Nat),(P.take k).flatten.length≤P.flatten.length
 | [],k=>by simp
 | x :: P,0=>by simp
 | x :: P,k+1=>by
  have:=Jv P k
  rw [List.take_succ_cons,List.flatten_cons,List.flatten_cons,aA,aA]
  omega
theorem AX (P:List (List UInt8))(a b:Nat):(joinL P a b).length≤P.flatten.length:=by
 have h1:=Jv P b
 have:(joinL P a b).length≤(P.take b).flatten.length:=by
  unfold joinL
  conv=>rhs;rw [← bG a (P.take b),nR,aA]
  omega
 omega
theorem Jo (P:List (List UInt8))(v:Value)(B:Nat)(a b:Nat)(w:World)(h:w.ownsRow B 9 1 v P.length (sC P))(hl:P.length≤1000000)(hb:b≤1000000)(hf:P.flatten.length≤100000000) :
  Calls Tryz.prog 100 #[v,.int .i64 (a:Int),.int .i64 (b:Int)] w fun e w'=>e=.returned (.string ⟨(joinL P a b).toArray⟩)∧w'=w:=by
 have HJ:=ae (fun i=>AX P a i)
 have hc:=fun g (hg:v.ownBlock=some g)=>h.cells (g:=g) hg
 obtain⟨va,vc,rfl⟩:=bP h
 have hmx:max ((a:Nat):Int) 0=(a:Int):=by omega
 go_enter Tryz.func100,Tryz.ntmps100
 go_wp2_with fail
 go_loopw [7,8] (fun ov iv wr=>∃i:Nat,a≤i∧(i=a∨i≤P.length)∧(i=a∨i≤b)∧iv=.int .i64 (i:Int)∧ov=.string ⟨(joinL P a i).toArray⟩∧wr=w) (fun _ iv _=>P.length - iW iv)
 case atStart=>exact⟨a,au _,.inl rfl,.inl rfl,by first | rfl | rw [hmx],by rw [uy P a a (.inl (au _))],rfl⟩
 case round =>
  obtain⟨i,hai,hi1,hi2,rfl,rfl,rfl⟩:=hrel
  by_cases hib:i < b
  ·by_cases hil:i < P.length
   ·obtain⟨x,hx⟩:∃x,P[i]? = some x:=⟨_,ay hil⟩
    obtain⟨g,hg⟩:∃g,va=some ⟨g,0,none⟩:=by
     rcases h.2 with ⟨e,e2⟩ | ⟨g,cap,cur,e,_⟩
     ·omega
     ·simp only [bD] at e;exact⟨g,e.1⟩
    subst hg
    have c1:=hc g rfl i (dA x) (by simp [sC,hx])
    rw [aP,aJ] at c1
    unfold dA at c1
    have hjx:=pK (joinL P a i) x
    have hst:=Lm P a i b x hai hib hx
    have hbd:¬9223372036854775807 < (joinL P a i).length+x.length:=by
     have h1:=HJ.out (i+1)
     rw [hst,aA] at h1
     omega
    have HST:=ae hst
    have d1:decide ((i:Int) < (b:Int))=true:=by simpa using hib
    clear hst
    go_wp2_with fail
    exact⟨⟨i+1,by omega,.inr (by omega),.inr (by omega),by simp,by rw [HST.out],by trivial⟩,by simp only [iW];omega⟩
   ·have hstop:joinL P a i=joinL P a b:=by
     unfold joinL
     rw [sZ (show P.length≤i by omega),sZ (show P.length≤b by omega)]
    rw [hstop]
    have d1:decide ((i:Int) < (b:Int))=true:=by simpa using hib
    have d2:¬(i:Int) < (P.length:Int):=by omega
    go_wp2_with fail
    go_ret
    exact⟨rfl,rfl⟩
  ·have hstop:joinL P a i=joinL P a b:=by
    rcases hi2 with rfl | hi2
    ·rw [uy P i i (.inl (au _)),uy P i b (.inl (by omega))]
    ·obtain rfl:i=b:=by omega
     rfl
   rw [hstop]
   have d1:decide ((i:Int) < (b:Int))=false:=by simpa using hib
   go_wp2_with fail
   go_ret
   exact⟨rfl,rfl⟩
end Go.Proofs.YtfelmdkeaacfeaaGreatDoor.W
end
