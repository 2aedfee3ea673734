/- Texts joined: Repl Rfx Pts. -/
import Derived.Test.YtfelmdkeaacfeaaGreatDoorTM1
import Derived.Test.YtfelmdkeaacfeaaGreatDoorTM11
import Derived.Test.YtfelmdkeaacfeaaGreatDoorTM9
import Derived.Lib.AppendStr
import Derived.Lib.AppendIntMem
import Derived.Laws.IdiomStrings
import Derived.Laws.BytesArg
set_option maxRecDepth 100000
set_option maxHeartbeats 40000000
set_option linter.unusedVariables false
set_option linter.unusedSimpArgs false
section
namespace Go.Proofs.YtfelmdkeaacfeaaGreatDoor.W
open Go.RowKit
theorem bytes_app (a b:List UInt8):(⟨a.toArray⟩:ByteArray) ++ ⟨b.toArray⟩=⟨(a ++ b).toArray⟩:=by
 apply ByteArray.ext
 rw [ByteArray.data_append]
 simp
theorem replace_kind {B R g cap:Nat}{S:Tr}{fv:Value}{w:World}{K d}(h:TAt B R S (.slice (some ⟨g,0,none⟩) S.slots.length cap) fv w)(hL:Lk S K d)(i:Nat)(n:Nd)(hi:S.at i=some n)(hk:n.kind=1∨n.kind=2)(a b c:Value) :
  Calls Tryz.prog 19 #[.pointer (some ⟨R,0,none⟩),.int .i64 (S.hd i),a,b,c] w fun e w'=>e=.returned (.tuple #[.slice none 0 0,.int .i64 10])∧Below w.heap.size w w':=by
 have HA:=Lib.hid (at_some h (S.hd i) (hd_ok hL hi).1 (hd_ix hL hi))
 have c0:=nd_cell h hi 0 (by omega)
 simp only [ndC,zzD,zzE] at c0
 clear h hL hi
 rcases hk with hk | hk <;> rw [hk] at c0 <;> clear hk
 ·go_enter Tryz.func19,Tryz.ntmps19
  go_wp2_with fail
  refine HA.out.mono ?_
  rintro e w2 ⟨rfl,hb2⟩
  have c1:=cell_keep hb2 c0
  go_wp2_with fail
  go_ret2
  exact⟨rfl,hb2⟩
 ·go_enter Tryz.func19,Tryz.ntmps19
  go_wp2_with fail
  refine HA.out.mono ?_
  rintro e w2 ⟨rfl,hb2⟩
  have c1:=cell_keep hb2 c0
  go_wp2_with fail
  go_ret2
  exact⟨rfl,hb2⟩
theorem decodeL_at (s:ByteArray)(pos:Nat):Utf8.decode s pos=Lib.decodeL (s.data.toList.drop pos):=by
 have hsz:s.data.toList.length=s.size:=by rw [Array.length_toList];rfl
 by_cases h:pos≤s.size
 ·unfold Lib.decodeL
  rw [Lib.decode_at,Lib.decode_at]
  have e:(⟨(s.data.toList.drop pos).toArray⟩:ByteArray).size=s.size - pos:=by
   show(s.data.toList.drop pos).toArray.size=_
   rw [List.size_toArray,List.length_drop,hsz]
  have g:∀k,(⟨(s.data.toList.drop pos).toArray⟩:ByteArray).get! k=s.get! (pos+k):=by
   intro k
   show(s.data.toList.drop pos).toArray[k]! = s.data[pos+k]!
   by_cases hk:pos+k < s.size
   ·rw [getElem!_pos _ k (by rw [List.size_toArray,List.length_drop,hsz];omega),getElem!_pos s.data (pos+k) hk,List.getElem_toArray,List.getElem_drop,Array.getElem_toList]
   ·rw [getElem!_neg _ k (by rw [List.size_toArray,List.length_drop,hsz];omega),getElem!_neg s.data (pos+k) hk]
  rw [e,g,g,g,g,Nat.sub_zero]
  simp only [Nat.add_zero,Nat.zero_add]
 ·unfold Lib.decodeL
  rw [List.drop_eq_nil_of_le (by omega),Lib.decode_at,Lib.decode_at]
  have g:∀k,s.get! (pos+k)=0:=by
   intro k
   show s.data[pos+k]! = 0
   rw [getElem!_neg s.data (pos+k) (by show ¬pos+k < s.size;omega)]
   rfl
  have g0:=g 0
  rw [Nat.add_zero] at g0
  rw [g0,g,g,g,show s.size - pos=0 by omega]
  rfl
theorem fixFrom_rfix (s:ByteArray):∀(f pos:Nat),s.size≤pos+f→fixFrom s f pos=rfix (s.data.toList.drop pos)
 | 0,pos,h=>by
  rw [List.drop_eq_nil_of_le (by rw [Array.length_toList];exact h)]
  rfl
 | f+1,pos,h=>by
  have hsz:s.data.toList.length=s.size:=by rw [Array.length_toList];rfl
  unfold fixFrom
  by_cases hp:pos < s.size
  ·have hne:s.data.toList.drop pos≠[]:=by
    intro e
    have:=congrArg List.length e
    rw [List.length_drop,hsz] at this
    simp at this
    omega
   have hw:=width_pos s pos hp
   rw [if_pos hp,fixFrom_rfix s f _ (by omega),rfix_step _ hne,decodeL_at,← List.drop_drop]
   by_cases hb:(Lib.decodeL (s.data.toList.drop pos)).1=65533∧(Lib.decodeL (s.data.toList.drop pos)).2=1
   ·have e0:szL (s.data.toList.drop pos)=0:=by unfold szL;rw [if_neg hne,if_pos hb]
    rw [if_pos e0,hb.1,hb.2]
    rfl
   ·have e0:szL (s.data.toList.drop pos)=(Lib.decodeL (s.data.toList.drop pos)).2:=by unfold szL;rw [if_neg hne,if_neg hb]
    have hw':=Lib.decodeL_width (s.data.toList.drop pos)
    rw [if_neg (by omega),Lib.encode_decode _ hne hb,e0]
  ·rw [if_neg hp,List.drop_eq_nil_of_le (by omega)]
   rfl
theorem fix_rfix (l:List UInt8):fix l=rfix l:=by
 unfold fix
 by_cases h:Lib.validD l=true
 ·rw [if_pos h];exact((rfix_iff l).1 h).symm
 ·rw [if_neg h,fixFrom_rfix _ _ _ (by show l.toArray.size≤_;simp)]
  rfl
theorem infoU:(Tryz.prog.info? 5).map (fun i=>(i.zero,i.size,i.bytes))=some (some (.int .u8 0),1,1):=by kernel_rfl
theorem conv_own (w:World){B:Nat}{v:Value}{l:List UInt8}(h:w.ownsRow B 5 1 v l.length (Lib.byteCells l)) :
  (convert 122 9 v).run Tryz.prog w=.ok (.string ⟨l.toArray⟩) w:=by
 have hc:=fun g hg=>h.cells (g:=g) hg
 rcases h.2 with ⟨rfl,e⟩ | ⟨g,cap,cur,rfl,_⟩
 ·have:l=[]:=List.eq_nil_of_length_eq_zero e
  subst this
  exact run_convert_bytes_nil w 122 5 Tryz.underlying122 Tryz.underlying5 0 0 9 Tryz.underlying9
 ·refine run_convert_bytes_back w 122 9 5 ⟨g,0,none⟩ cap l Tryz.underlying122 Tryz.underlying5 Tryz.underlying9 (fun j hj=>?_)
  exact hc g rfl j _ (by simp [Lib.byteCells,List.getElem?_eq_getElem hj])
def RfR (w:World)(l:List UInt8)(ov iv:Value)(wr:World):Prop :=
 ∃(i:Nat) (acc:List UInt8),i≤l.length∧iv=.int .i64 (i:Int)∧wr.ownsRow w.heap.size 5 1 ov acc.length (Lib.byteCells acc)∧acc ++ rfix (l.drop i)=rfix l∧Below w.heap.size w wr
theorem repairR_any (l:List UInt8)(w:World)(hs:l.length≤100000000) :
  Calls Tryz.prog 92 #[.string ⟨l.toArray⟩] w fun e w'=>e=.returned (.string ⟨(rfix l).toArray⟩)∧Below w.heap.size w w':=by
 have hsz:(⟨l.toArray⟩:ByteArray).size=l.length:=by show l.toArray.size=_;simp
 have hrl:=rfix_len l.length l (Nat.le_refl _)
 have HZ:=Lib.hid (fun(i:Nat) (hi:i≤l.length) wx=>size_any ⟨l.toArray⟩ i wx (by rw [hsz];omega) (by rw [hsz];exact hi))
 simp only [show(⟨l.toArray⟩:ByteArray).data.toList=l from rfl] at HZ
 have HX:=Lib.hid (fun(i n:Nat) (hi:i+n≤l.length)=>(show(⟨l.toArray⟩:ByteArray).extract i (i+n)=⟨((l.drop i).take n).toArray⟩ from by
  apply ByteArray.ext
  apply Array.toList_inj.1
  rw [ByteArray.data_extract,Array.toList_extract,List.extract_eq_take_drop]
  simp))
 obtain⟨i0,hi0,hz0,hz1,hz2⟩:=info_parts infoU
 generalize hss:(⟨l.toArray⟩:ByteArray)=s at *
 go_enter Tryz.func92,Tryz.ntmps92
 go_wp2_with fail
 go_loopw [3,4,5] (fun ov iv nv wr=>RfR w l ov iv wr) (fun _ iv _ _=>l.length - intN iv)
 case atStart=>exact⟨0,[],by omega,rfl,World.ownsRow_nil _ _ _ _,by simp,Below.refl _ _⟩
 case round =>
  obtain⟨i,acc,hi,rfl,hown,hacc,hB⟩:=hrel
  have hal:acc.length≤3*l.length:=by
   have:=congrArg List.length hacc
   rw [List.length_append] at this
   omega
  have HO:=Lib.hid hown
  have HA:=Lib.hid hacc
  clear hown hacc
  by_cases hlt:i < l.length
  ·have hlt2:(i:Int) < (s.size:Int):=by omega
   have HS:=Lib.hid (HZ.out i hi)
   have hle:=szL_le (l.drop i)
   rw [List.length_drop] at hle
   have hne:l.drop i≠[]:=by intro e;have:=congrArg List.length e;rw [List.length_drop] at this;simp at this;omega
   have hst:=rfix_step (l.drop i) hne
   rw [List.drop_drop,List.drop_drop] at hst
   have HE:=Lib.hid (HX.out i (szL (l.drop i)))
   generalize hzz:szL (l.drop i)=z at *
   have HST:=Lib.hid hst
   clear hst hzz
   by_cases h0:z=0
   ·subst h0
    clear HE
    go_wp2_with fail
    refine(HS.out _).mono ?_
    rintro e w1 ⟨rfl,hw⟩
    subst hw
    go_wp2_with (at_builtin;refine wpList_append_own _ rfl _ _ 122 rfl w.heap.size 5 i0 _ 1 1 Tryz.underlying122 hi0 hz0 hz1 hz2 rfl (by decide) _ acc.length _ rfl (HO.out.alloc _) _ 3 3 [.int .u8 239,.int .u8 191,.int .u8 189] rfl rfl ?cc ?co ?c1 ?c2 ?c3 ?_)
    case cc=>exact own_news (own_at (n:=3) (size:=1) (Blk.new w1 [.int .u8 239,.int .u8 191,.int .u8 189] 5) rfl (by omega))
    case co=>intro u hu;simp at hu;rcases hu with rfl | rfl | rfl <;> rfl
    case c1=>unfold maxLen;omega
    case c2=>omega
    case c3=>have:=hB.size;simp;omega
    intro v' w5 hown5 hgr5 _
    have hB5:Below w.heap.size w w5:=(hB.alloc hB.size _).grown hgr5 (by have:=hB.size;simp;omega) (fun k hk=>(HO.out.lt k hk).1)
    have HW:=Lib.hid hown5
    clear hown5 hgr5
    go_wp2_with fail
    refine⟨⟨i+1,acc ++ [239,191,189],by omega,rfl,?_,?_,hB5⟩,by simp only [intN];omega⟩
    ·rw [Lib.byteCells_append,List.length_append];exact HW.out
    ·rw [List.append_assoc,← HA.out,HST.out];simp only [if_true]
   ·have hz1':(z:Int)≠0:=by omega
    have hz2':((z:Int) == 0)=false:=by simpa using h0
    have hiz:i+z≤l.length:=by omega
    have hex:=HE.out (by omega)
    have HEX:=Lib.hid hex
    have hsl:(⟨((l.drop i).take z).toArray⟩:ByteArray).size=z:=by show((l.drop i).take z).toArray.size=_;simp;omega
    clear hex HE
    go_wp2_with fail
    refine(HS.out _).mono ?_
    rintro e w1 ⟨rfl,hw⟩
    subst hw
    go_wp2_with (at_builtin;refine Lib.wpList_append_own_string _ rfl _ _ 122 9 rfl w.heap.size 5 i0 Tryz.underlying122 Tryz.underlying9 hi0 hz0 hz1 hz2 _ acc.length _ rfl HO.out ⟨((l.drop i).take z).toArray⟩ ?cx ?c1 ?c2 hB.size ?_)
    case cx=>first | rfl | (simp only [← HEX.out];rfl)
    case c1=>rw [hsl];unfold maxLen;omega
    case c2=>rw [hsl];omega
    intro v' w5 hown5 hgr5 _
    have hB5:Below w.heap.size w w5:=hB.grown hgr5 hB.size (fun k hk=>(HO.out.lt k hk).1)
    have HW:=Lib.hid hown5
    clear hown5 hgr5
    go_wp2_with fail
    refine⟨⟨i+z,acc ++ (l.drop i).take z,by omega,rfl,?_,?_,hB5⟩,by simp only [intN];omega⟩
    ·rw [Lib.byteCells_append,List.length_append]
     have:=HW.out
     rw [List.length_take,List.length_drop,show min z (l.length - i)=z by omega]
     exact this
    ·rw [List.append_assoc,← HA.out,HST.out,if_neg h0]
  ·obtain rfl:i=l.length:=by omega
   have hlt2:¬(l.length:Int) < (s.size:Int):=by omega
   have hcv:=conv_own _ HO.out
   go_wp2_with fail
   go_ret
   have:=HA.out
   rw [List.drop_length,rfix_nil,List.append_nil] at this
   rw [this]
   exact⟨rfl,hB⟩
/-! ### Points, Join -/
def ptsG:Nat→List UInt8→List (List UInt8)
 | 0,_=>[]
 | f+1,l=>if l=[] then [] else l.take (max (szL l) 1) :: ptsG f (l.drop (max (szL l) 1))
def ptsL (l:List UInt8):List (List UInt8):=ptsG l.length l
theorem ptsG_fuel:∀(n m:Nat) (l:List UInt8),l.length≤n→l.length≤m→ptsG n l=ptsG m l
 | 0,m,l,hn,_=>by
  have:l=[]:=List.eq_nil_of_length_eq_zero (by omega)
  subst this
  cases m <;> simp [ptsG]
 | n+1,0,l,_,hm=>by
  have:l=[]:=List.eq_nil_of_length_eq_zero (by omega)
  subst this
  simp [ptsG]
 | n+1,m+1,l,hn,hm=>by
  unfold ptsG
  by_cases hne:l=[]
  ·simp [hne]
  ·have hl:0 < l.length:=List.length_pos_iff.2 hne
   rw [if_neg hne,if_neg hne,ptsG_fuel n m _ (by rw [List.length_drop];omega) (by rw [List.length_drop];omega)]
theorem ptsL_nil:ptsL []=[]:=rfl
theorem ptsL_step (l:List UInt8)(hne:l≠[]):ptsL l=l.take (max (szL l) 1) :: ptsL (l.drop (max (szL l) 1)):=by
 have hl:0 < l.length:=List.length_pos_iff.2 hne
 obtain⟨n,hn⟩:∃n,l.length=n+1:=⟨l.length - 1,by omega⟩
 show ptsG l.length l=_
 rw [hn]
 show(if l=[] then [] else _)=_
 rw [if_neg hne]
 unfold ptsL
 rw [ptsG_fuel n (l.drop (max (szL l) 1)).length _ (by rw [List.length_drop];omega) (Nat.le_refl _)]
theorem ptsL_len (n:Nat):∀(l:List UInt8),l.length≤n→(ptsL l).length≤l.length:=by
 induction n with
 | zero =>
  intro l h
  have:l=[]:=List.eq_nil_of_length_eq_zero (by omega)
  subst this
  simp [ptsL_nil]
 | succ n ih =>
  intro l h
  by_cases hne:l=[]
  ·subst hne;simp [ptsL_nil]
  ·have hl:0 < l.length:=List.length_pos_iff.2 hne
   rw [ptsL_step l hne,List.length_cons]
   have:=ih (l.drop (max (szL l) 1)) (by rw [List.length_drop];omega)
   rw [List.length_drop] at this
   omega
theorem ptsL_join (n:Nat):∀(l:List UInt8),l.length≤n→(ptsL l).flatten=l:=by
 induction n with
 | zero =>
  intro l h
  have:l=[]:=List.eq_nil_of_length_eq_zero (by omega)
  subst this
  rfl
 | succ n ih =>
  intro l h
  by_cases hne:l=[]
  ·subst hne;rfl
  ·have hl:0 < l.length:=List.length_pos_iff.2 hne
   rw [ptsL_step l hne,List.flatten_cons,ih _ (by rw [List.length_drop];omega),List.take_append_drop]
theorem infoT:(Tryz.prog.info? 9).map (fun i=>(i.zero,i.size,i.bytes))=some (some (.string ⟨#[]⟩),1,16):=by kernel_rfl
def sC (l:List (List UInt8)):List Value:=l.map strV
def PtR (w:World)(l:List UInt8)(ov iv:Value)(wr:World):Prop :=
 ∃(i:Nat) (acc:List (List UInt8)),i≤l.length∧acc.length≤i∧iv=.int .i64 (i:Int)∧wr.ownsRow w.heap.size 9 1 ov acc.length (sC acc)∧acc ++ ptsL (l.drop i)=ptsL l∧Below w.heap.size w wr
theorem points_any (l:List UInt8)(w:World)(hs:l.length≤1000000) :
  Calls Tryz.prog 99 #[.string ⟨l.toArray⟩] w fun e w'=>∃v,e=.returned v∧w'.ownsRow w.heap.size 9 1 v (ptsL l).length (sC (ptsL l))∧Below w.heap.size w w':=by
 have hsz:(⟨l.toArray⟩:ByteArray).size=l.length:=by show l.toArray.size=_;simp
 have HZ:=Lib.hid (fun(i:Nat) (hi:i≤l.length) wx=>size_any ⟨l.toArray⟩ i wx (by rw [hsz];omega) (by rw [hsz];exact hi))
 simp only [show(⟨l.toArray⟩:ByteArray).data.toList=l from rfl] at HZ
 have HX:=Lib.hid (fun(i n:Nat) (hi:i+n≤l.length)=>(show(⟨l.toArray⟩:ByteArray).extract i (i+n)=⟨((l.drop i).take n).toArray⟩ from by
  apply ByteArray.ext
  apply Array.toList_inj.1
  rw [ByteArray.data_extract,Array.toList_extract,List.extract_eq_take_drop]
  simp))
 obtain⟨i0,hi0,hz0,hz1,hz2⟩:=info_parts infoT
 generalize hss:(⟨l.toArray⟩:ByteArray)=s at *
 go_enter Tryz.func99,Tryz.ntmps99
 go_wp2_with fail
 go_loopw [3,4,5] (fun ov iv nv wr=>PtR w l ov iv wr) (fun _ iv _ _=>l.length - intN iv)
 case atStart=>exact⟨0,[],by omega,by simp,rfl,World.ownsRow_nil _ _ _ _,by simp,Below.refl _ _⟩
 case round =>
  obtain⟨i,acc,hi,hal,rfl,hown,hacc,hB⟩:=hrel
  have HO:=Lib.hid hown
  have HA:=Lib.hid hacc
  clear hown hacc
  by_cases hlt:i < l.length
  ·have hlt2:(i:Int) < (s.size:Int):=by omega
   have HS:=Lib.hid (HZ.out i hi)
   have hle:=szL_le (l.drop i)
   rw [List.length_drop] at hle
   have hne:l.drop i≠[]:=by intro e;have:=congrArg List.length e;rw [List.length_drop] at this;simp at this;omega
   have hst:=ptsL_step (l.drop i) hne
   rw [List.drop_drop] at hst
   generalize szL (l.drop i)=z at *
   have hmx:max ((z:Nat):Int) 1=((max z 1:Nat):Int):=by omega
   obtain⟨y,hy⟩:∃y,y=max z 1:=⟨_,rfl⟩
   rw [← hy] at hst hmx
   have hiy:i+y≤l.length:=by omega
   have hy1:1≤y:=by omega
   have hex:=HX.out i y hiy
   have HEX:=Lib.hid hex
   have HST:=Lib.hid hst
   clear hst hex hy
   go_wp2_with fail
   refine(HS.out _).mono ?_
   rintro e w1 ⟨rfl,hw⟩
   subst hw
   have hex:=HEX.out
   go_wp2_with (at_builtin;refine wpList_append_own _ rfl _ _ 147 rfl w.heap.size 9 i0 _ 1 16 Tryz.underlying147 hi0 hz0 hz1 hz2 rfl (by decide) _ acc.length _ rfl (HO.out.alloc _) _ 1 1 [.string ⟨((l.drop i).take y).toArray⟩] rfl rfl ?cc ?co ?c1 ?c2 ?c3 ?_)
   case cc=>rw [← HEX.out];exact own_news (own_at (n:=1) (size:=1) (Blk.new w1 [.string (s.extract i (i+y))] 9) rfl (by omega))
   case co=>intro u hu;simp at hu;rcases hu with rfl;rfl
   case c1=>unfold maxLen;omega
   case c2=>omega
   case c3=>have:=hB.size;simp;omega
   intro v' w5 hown5 hgr5 _
   have hB5:Below w.heap.size w w5:=(hB.alloc hB.size _).grown hgr5 (by have:=hB.size;simp;omega) (fun k hk=>(HO.out.lt k hk).1)
   have HW:=Lib.hid hown5
   clear hown5 hgr5
   go_wp2_with fail
   refine⟨⟨i+y,acc ++ [(l.drop i).take y],by omega,by simp;omega,by simp,?_,?_,hB5⟩,by simp only [intN];omega⟩
   ·rw [List.length_append,List.length_singleton,show sC (acc ++ [(l.drop i).take y])=sC acc ++ [.string ⟨((l.drop i).take y).toArray⟩] by simp [sC,strV]]
    exact HW.out
   ·rw [List.append_assoc,← HA.out,HST.out]
    rfl
  ·obtain rfl:i=l.length:=by omega
   have hlt2:¬(l.length:Int) < (s.size:Int):=by omega
   have e:=HA.out
   rw [List.drop_length,ptsL_nil,List.append_nil] at e
   subst e
   go_wp2_with fail
   go_ret
   exact⟨_,rfl,HO.out,hB⟩
def joinL (P:List (List UInt8))(a b:Nat):List UInt8:=((P.take b).drop a).flatten
theorem joinL_stop (P:List (List UInt8))(a b:Nat)(h:b≤a∨P.length≤a):joinL P a b=[]:=by
 unfold joinL
 rw [List.drop_eq_nil_of_le (by rw [List.length_take];omega)]
 rfl
theorem joinL_step (P:List (List UInt8))(a i b:Nat)(x:List UInt8)(hai:a≤i)(hib:i < b)(hx:P[i]? = some x):joinL P a (i+1)=joinL P a i ++ x:=by
 unfold joinL
 rw [List.take_add_one,hx,List.drop_append_of_le_length (by have:=(List.getElem?_eq_some_iff.1 hx).1;rw [List.length_take];omega),List.flatten_append]
 simp
theorem flat_len:∀(P:List (List UInt8)) (k:Nat),(P.take k).flatten.length≤P.flatten.length
 | [],k=>by simp
 | x :: P,0=>by simp
 | x :: P,k+1=>by
  have:=flat_len P k
  rw [List.take_succ_cons,List.flatten_cons,List.flatten_cons,List.length_append,List.length_append]
  omega
theorem joinL_len (P:List (List UInt8))(a b:Nat):(joinL P a b).length≤P.flatten.length:=by
 have h1:=flat_len P b
 have:(joinL P a b).length≤(P.take b).flatten.length:=by
  unfold joinL
  conv=>rhs;rw [← List.take_append_drop a (P.take b),List.flatten_append,List.length_append]
  omega
 omega
theorem join_any (P:List (List UInt8))(v:Value)(B:Nat)(a b:Nat)(w:World)(h:w.ownsRow B 9 1 v P.length (sC P))(hl:P.length≤1000000)(hb:b≤1000000)(hf:P.flatten.length≤100000000) :
  Calls Tryz.prog 100 #[v,.int .i64 (a:Int),.int .i64 (b:Int)] w fun e w'=>e=.returned (.string ⟨(joinL P a b).toArray⟩)∧w'=w:=by
 have HJ:=Lib.hid (fun i=>joinL_len P a i)
 have hc:=fun g (hg:v.ownBlock=some g)=>h.cells (g:=g) hg
 obtain⟨va,vc,rfl⟩:=own_shapeB h
 have hmx:max ((a:Nat):Int) 0=(a:Int):=by omega
 go_enter Tryz.func100,Tryz.ntmps100
 go_wp2_with fail
 go_loopw [7,8] (fun ov iv wr=>∃i:Nat,a≤i∧(i=a∨i≤P.length)∧(i=a∨i≤b)∧iv=.int .i64 (i:Int)∧ov=.string ⟨(joinL P a i).toArray⟩∧wr=w) (fun _ iv _=>P.length - intN iv)
 case atStart=>exact⟨a,Nat.le_refl _,.inl rfl,.inl rfl,by first | rfl | rw [hmx],by rw [joinL_stop P a a (.inl (Nat.le_refl _))],rfl⟩
 case round =>
  obtain⟨i,hai,hi1,hi2,rfl,rfl,rfl⟩:=hrel
  by_cases hib:i < b
  ·by_cases hil:i < P.length
   ·obtain⟨x,hx⟩:∃x,P[i]? = some x:=⟨_,List.getElem?_eq_getElem hil⟩
    obtain⟨g,hg⟩:∃g,va=some ⟨g,0,none⟩:=by
     rcases h.2 with ⟨e,e2⟩ | ⟨g,cap,cur,e,_⟩
     ·omega
     ·simp only [Value.slice.injEq] at e;exact⟨g,e.1⟩
    subst hg
    have c1:=hc g rfl i (strV x) (by simp [sC,hx])
    rw [Go.WideShapes.add_plain,Nat.zero_add] at c1
    unfold strV at c1
    have hjx:=bytes_app (joinL P a i) x
    have hst:=joinL_step P a i b x hai hib hx
    have hbd:¬9223372036854775807 < (joinL P a i).length+x.length:=by
     have h1:=HJ.out (i+1)
     rw [hst,List.length_append] at h1
     omega
    have HST:=Lib.hid hst
    have d1:decide ((i:Int) < (b:Int))=true:=by simpa using hib
    clear hst
    go_wp2_with fail
    exact⟨⟨i+1,by omega,.inr (by omega),.inr (by omega),by simp,by rw [HST.out],by trivial⟩,by simp only [intN];omega⟩
   ·have hstop:joinL P a i=joinL P a b:=by
     unfold joinL
     rw [List.take_of_length_le (show P.length≤i by omega),List.take_of_length_le (show P.length≤b by omega)]
    rw [hstop]
    have d1:decide ((i:Int) < (b:Int))=true:=by simpa using hib
    have d2:¬(i:Int) < (P.length:Int):=by omega
    go_wp2_with fail
    go_ret
    exact⟨rfl,rfl⟩
  ·have hstop:joinL P a i=joinL P a b:=by
    rcases hi2 with rfl | hi2
    ·rw [joinL_stop P i i (.inl (Nat.le_refl _)),joinL_stop P i b (.inl (by omega))]
    ·obtain rfl:i=b:=by omega
     rfl
   rw [hstop]
   have d1:decide ((i:Int) < (b:Int))=false:=by simpa using hib
   go_wp2_with fail
   go_ret
   exact⟨rfl,rfl⟩
theorem dec_max (l:List UInt8)(hne:l≠[]):(Lib.decodeL l).2=max (szL l) 1:=by
 have hw:=Lib.decodeL_width l
 unfold szL
 rw [if_neg hne]
 split
 ·rename_i h;rw [h.2];rfl
 ·omega
theorem drop_ne (s:ByteArray)(pos:Nat)(h:pos < s.size):s.data.toList.drop pos≠[]:=by
 intro e
 have:=congrArg List.length e
 rw [List.length_drop,Array.length_toList] at this
 have h2:s.data.size=s.size:=rfl
 simp at this
 omega
theorem drop_end (s:ByteArray)(pos:Nat)(h:¬pos < s.size):s.data.toList.drop pos=[] :=
 List.drop_eq_nil_of_le (by rw [Array.length_toList];show s.size≤pos;omega)
theorem runeCount_pts (s:ByteArray):∀f pos,s.size≤pos+f→Lib.runeCountFrom s f pos=(ptsL (s.data.toList.drop pos)).length
 | 0,pos,h=>by
  rw [drop_end s pos (by omega)]
  rfl
 | f+1,pos,h=>by
  unfold Lib.runeCountFrom
  by_cases hp:pos < s.size
  ·have hne:=drop_ne s pos hp
   have hw:=width_pos s pos hp
   rw [if_pos hp,runeCount_pts s f _ (by omega),ptsL_step _ hne,List.length_cons,decodeL_at,dec_max _ hne,← List.drop_drop]
   omega
  ·rw [if_neg hp,drop_end s pos hp]
   rfl
theorem runeCount_is (l:List UInt8):Lib.runeCount ⟨l.toArray⟩=(ptsL l).length:=by
 unfold Lib.runeCount
 rw [runeCount_pts _ _ _ (by omega)]
 rfl
def offP (P:List (List UInt8))(k:Nat):Nat:=(P.take k).flatten.length
theorem offP_zero (P:List (List UInt8)):offP P 0=0:=rfl
theorem offP_succ (x:List UInt8)(P:List (List UInt8))(k:Nat):offP (x :: P) (k+1)=x.length+offP P k:=by
 unfold offP
 rw [List.take_succ_cons,List.flatten_cons,List.length_append]
theorem slGo_pts (s:ByteArray)(a b:Nat)(hab:a≤b):∀(f pos n i:Nat),s.size≤pos+f→n≤b →
  slGo s a b f pos n i=(if n≤a∧a < n+(ptsL (s.data.toList.drop pos)).length then pos+offP (ptsL (s.data.toList.drop pos)) (a - n) else i,
   if b < n+(ptsL (s.data.toList.drop pos)).length then pos+offP (ptsL (s.data.toList.drop pos)) (b - n) else s.size)
 | 0,pos,n,i,h,hn=>by
  rw [drop_end s pos (by omega)]
  unfold slGo
  rw [ptsL_nil]
  simp only [List.length_nil,Nat.add_zero]
  rw [if_neg (by omega),if_neg (by omega)]
 | f+1,pos,n,i,h,hn=>by
  unfold slGo
  by_cases hp:pos < s.size
  ·have hne:=drop_ne s pos hp
   have hw:=width_pos s pos hp
   have hst:=ptsL_step _ hne
   have hdm:=dec_max _ hne
   rw [List.drop_drop,← hdm,← decodeL_at] at hst
   have hxl:(List.take (Utf8.decode s pos).2 (s.data.toList.drop pos)).length=(Utf8.decode s pos).2:=by
    rw [List.length_take]
    have:=Lib.decodeL_le _ hne
    rw [← decodeL_at] at this
    omega
   rw [if_pos hp]
   by_cases hnb:n=b
   ·subst hnb
    rw [if_pos (by rfl),hst,List.length_cons,if_pos (show n < _ by omega),Nat.sub_self,offP_zero,Nat.add_zero]
    by_cases hna:n=a
    ·subst hna
     rw [if_pos (by rfl),if_pos (by omega)]
     simp [offP]
    ·rw [if_neg (by omega),if_neg (by omega)]
     simp [offP]
   ·rw [if_neg (by omega),slGo_pts s a b hab f _ _ _ (by omega) (by omega),hst,List.length_cons]
    generalize hP:ptsL (s.data.toList.drop (pos+(Utf8.decode s pos).2))=P at *
    congr 1
    ·by_cases hna:n=a
     ·subst hna
      rw [if_neg (by omega),if_pos (by rfl),if_pos (by omega),Nat.sub_self,offP_zero,Nat.add_zero]
     ·rw [if_neg (show ¬(n:Int)=(a:Int) by omega)]
      by_cases q:n+1≤a∧a < n+1+P.length
      ·rw [if_pos q,if_pos (by omega),show a - n=(a - (n+1))+1 by omega,offP_succ,hxl]
       omega
      ·rw [if_neg q,if_neg (by omega)]
    ·by_cases q:b < n+1+P.length
     ·rw [if_pos q,if_pos (by omega),show b - n=(b - (n+1))+1 by omega,offP_succ,hxl]
      omega
     ·rw [if_neg q,if_neg (by omega)]
  ·rw [if_neg hp,drop_end s pos hp,ptsL_nil]
   simp only [List.length_nil,Nat.add_zero]
   rw [if_neg (by omega),if_neg (by omega)]
theorem offP_all (P:List (List UInt8)):offP P P.length=P.flatten.length:=by unfold offP;rw [List.take_length]
theorem cut_join (P:List (List UInt8))(a b:Nat)(hab:a≤b):(P.flatten.take (offP P b)).drop (offP P a)=joinL P a b:=by
 have e1:P.flatten.take (offP P b)=(P.take b).flatten:=by
  conv=>lhs;rw [← List.take_append_drop b P,List.flatten_append]
  unfold offP
  exact List.take_left' (by simp)
 have e2:(P.take b).flatten=(P.take a).flatten ++ ((P.take b).drop a).flatten:=by
  conv=>lhs;rw [← List.take_append_drop a (P.take b),List.flatten_append]
  rw [List.take_take,Nat.min_eq_left hab]
 rw [e1,e2]
 unfold offP joinL
 exact List.drop_left' rfl
theorem sliceF_join (l:List UInt8)(hv:rfix l=l)(a b:Nat)(hab:a≤b)(hb:b≤(ptsL l).length):sliceF l a b=joinL (ptsL l) a b:=by
 unfold sliceF
 by_cases h:(b:Int)≤max (a:Int) 0
 ·rw [if_pos h,joinL_stop _ _ _ (.inl (by omega))]
 ·rw [if_neg h,fix_rfix,hv,show max (a:Int) 0=(a:Int) by omega,slGo_pts ⟨l.toArray⟩ a b hab l.length 0 0 l.length (by show l.toArray.size≤_;simp) (Nat.zero_le _)]
  have hd:(⟨l.toArray⟩:ByteArray).data.toList.drop 0=l:=rfl
  have hfl:(ptsL l).flatten=l:=ptsL_join l.length l (Nat.le_refl _)
  have hsz:(⟨l.toArray⟩:ByteArray).size=l.length:=by show l.toArray.size=_;simp
  have hall:=offP_all (ptsL l)
  rw [hfl] at hall
  rw [hd,Nat.zero_add,hsz]
  have e1:(if 0≤a∧a < (ptsL l).length then 0+offP (ptsL l) (a - 0) else l.length)=offP (ptsL l) a:=by
   by_cases q:a < (ptsL l).length
   ·rw [if_pos ⟨by omega,q⟩];simp
   ·rw [if_neg (by omega),← hall,show a=(ptsL l).length by omega]
  have e2:(if b < (ptsL l).length then 0+offP (ptsL l) (b - 0) else l.length)=offP (ptsL l) b:=by
   by_cases q:b < (ptsL l).length
   ·rw [if_pos q];simp
   ·rw [if_neg (by omega),← hall,show b=(ptsL l).length by omega]
  rw [e1,e2]
  unfold exL
  rw [ByteArray.data_extract,Array.toList_extract,List.extract_eq_take_drop]
  have:=cut_join (ptsL l) a b hab
  rw [hfl] at this
  rw [← this,List.drop_take]
/-! ### what is repaired is valid -/
theorem szL_app (l t:List UInt8)(h:szL l≠0):szL (l.take (szL l) ++ t)=szL l∧(l.take (szL l)).length=szL l:=by
 have hne:l≠[]:=fun e=>h (by rw [e];rfl)
 have hle:=szL_le l
 have hlen:(l.take (szL l)).length=szL l:=by rw [List.length_take];omega
 refine⟨?_,hlen⟩
 have hne2:l.take (szL l) ++ t≠[]:=fun e=>by
  have:=congrArg List.length e
  rw [List.length_append,hlen] at this
  simp at this
  omega
 have hl0:0 < l.length:=List.length_pos_iff.2 hne
 obtain⟨z,hz⟩:∃z,szL l=z:=⟨_,rfl⟩
 rw [hz] at h hle hlen hne2 ⊢
 have g:∀k,k < z→(l.take z ++ t).getD k 0=l.getD k 0:=by
  intro k hk
  rw [List.getD_eq_getElem?_getD,List.getD_eq_getElem?_getD,List.getElem?_append_left (by omega),List.getElem?_take,if_pos hk]
 rw [szL_N _ hne2,List.length_append,hlen]
 rw [szL_N _ hne] at hz
 have hz0:0 < z+t.length:=by omega
 have zz:∀b lo hi,inN (z+t.length) 0 b lo hi=inN l.length 0 b lo hi:=fun b lo hi=>by
  unfold inN
  rw [decide_eq_true hz0,decide_eq_true hl0]
 have mm:∀i b lo hi,i < z→inN l.length i b lo hi=true→inN (z+t.length) i b lo hi=true:=fun i b lo hi hi' h=>by
  unfold inN at h ⊢
  simp only [Bool.and_eq_true,decide_eq_true_eq] at h ⊢
  omega
 have nn:∀b lo hi,(b < lo∨hi < b)→inN l.length 0 b lo hi=false:=fun b lo hi h=>by
  unfold inN
  simp only [Bool.and_eq_false_iff,decide_eq_false_iff_not]
  omega
 have bb:∀b lo hi,inN l.length 0 b lo hi=true→lo≤b∧b≤hi:=fun b lo hi h=>by
  unfold inN at h
  simp only [Bool.and_eq_true,decide_eq_true_eq] at h
  omega
 have ss:∀b0 b1,1 < z→secN l.length b0 b1=true→secN (z+t.length) b0 b1=true:=fun b0 b1 h1 h=>by
  unfold secN at h ⊢
  by_cases q0:b0=224
  ·rw [if_pos q0] at h ⊢;exact mm _ _ _ _ h1 h
  rw [if_neg q0] at h ⊢
  by_cases q1:b0=237
  ·rw [if_pos q1] at h ⊢;exact mm _ _ _ _ h1 h
  rw [if_neg q1] at h ⊢
  by_cases q2:b0=240
  ·rw [if_pos q2] at h ⊢;exact mm _ _ _ _ h1 h
  rw [if_neg q2] at h ⊢
  by_cases q3:b0=244
  ·rw [if_pos q3] at h ⊢;exact mm _ _ _ _ h1 h
  ·rw [if_neg q3] at h ⊢;exact mm _ _ _ _ h1 h
 unfold szN at hz ⊢
 by_cases c1:inN l.length 0 (l.getD 0 0).toNat 0 127=true
 ·rw [if_pos c1] at hz
  subst hz
  rw [g 0 (by omega),zz,if_pos c1]
 ·rw [if_neg c1] at hz
  by_cases c2:(inN l.length 0 (l.getD 0 0).toNat 194 223 && inN l.length 1 (l.getD 1 0).toNat 128 191)=true
  ·rw [if_pos c2] at hz
   subst hz
   rw [Bool.and_eq_true] at c2
   rw [g 0 (by omega),g 1 (by omega),zz,zz,if_neg c1,if_pos (by rw [c2.1,mm _ _ _ _ (by omega) c2.2];rfl)]
  ·rw [if_neg c2] at hz
   by_cases c3:(inN l.length 0 (l.getD 0 0).toNat 224 239 && secN l.length (l.getD 0 0).toNat (l.getD 1 0).toNat && inN l.length 2 (l.getD 2 0).toNat 128 191)=true
   ·rw [if_pos c3] at hz
    subst hz
    rw [Bool.and_eq_true,Bool.and_eq_true] at c3
    have hb:=bb _ _ _ c3.1.1
    rw [g 0 (by omega),g 1 (by omega),g 2 (by omega),zz,zz,zz,if_neg c1,nn (l.getD 0 0).toNat 194 223 (by omega),Bool.false_and,if_neg (by simp),if_pos (by rw [c3.1.1,ss _ _ (by omega) c3.1.2,mm _ _ _ _ (by omega) c3.2];rfl)]
   ·rw [if_neg c3] at hz
    by_cases c4:(inN l.length 0 (l.getD 0 0).toNat 240 244 && secN l.length (l.getD 0 0).toNat (l.getD 1 0).toNat && (inN l.length 2 (l.getD 2 0).toNat 128 191 && inN l.length 3 (l.getD 3 0).toNat 128 191))=true
    ·rw [if_pos c4] at hz
     subst hz
     rw [Bool.and_eq_true,Bool.and_eq_true,Bool.and_eq_true] at c4
     have hb:=bb _ _ _ c4.1.1
     rw [g 0 (by omega),g 1 (by omega),g 2 (by omega),g 3 (by omega),zz,zz,zz,zz,if_neg c1,nn (l.getD 0 0).toNat 194 223 (by omega),nn (l.getD 0 0).toNat 224 239 (by omega),Bool.false_and,Bool.false_and,Bool.false_and,if_neg (by simp),if_neg (by simp),
      if_pos (by rw [c4.1.1,ss _ _ (by omega) c4.1.2,mm _ _ _ _ (by omega) c4.2.1,mm _ _ _ _ (by omega) c4.2.2];rfl)]
    ·rw [if_neg c4] at hz
     exact absurd hz.symm h
theorem rfix_app_bad (t:List UInt8):rfix ([239,191,189] ++ t)=[239,191,189] ++ rfix t:=by
 have h3:szL ([239,191,189] ++ t)=3:=by
  have:=(szL_app [239,191,189] t (by decide)).1
  rw [show szL [239,191,189]=3 by decide] at this
  exact this
 rw [rfix_step _ (by simp),h3,if_neg (by omega)]
 rfl
theorem rfix_twice (n:Nat):∀(l:List UInt8),l.length≤n→rfix (rfix l)=rfix l:=by
 induction n with
 | zero =>
  intro l h
  have:l=[]:=List.eq_nil_of_length_eq_zero (by omega)
  subst this
  rfl
 | succ n ih =>
  intro l h
  by_cases hne:l=[]
  ·subst hne;rfl
  ·have hl:0 < l.length:=List.length_pos_iff.2 hne
   have e:=rfix_step l hne
   by_cases h0:szL l=0
   ·rw [if_pos h0] at e
    rw [e,rfix_app_bad,ih _ (by rw [List.length_drop];omega)]
   ·rw [if_neg h0] at e
    obtain⟨h1,h2⟩:=szL_app l (rfix (l.drop (szL l))) h0
    have hne2:l.take (szL l) ++ rfix (l.drop (szL l))≠[]:=fun e2=>by
     have:=congrArg List.length e2
     rw [List.length_append,h2] at this
     simp at this
     omega
    have e3:=rfix_step _ hne2
    rw [h1,if_neg h0,List.take_left' h2,List.drop_left' h2,ih _ (by rw [List.length_drop];omega)] at e3
    rw [e,e3]
theorem rfix_rfix (l:List UInt8):rfix (rfix l)=rfix l:=rfix_twice l.length l (Nat.le_refl _)
theorem rfix_cat (n:Nat):∀(l t:List UInt8),l.length≤n→rfix l=l→rfix (l ++ t)=l ++ rfix t:=by
 induction n with
 | zero =>
  intro l t h _
  have:l=[]:=List.eq_nil_of_length_eq_zero (by omega)
  subst this
  rfl
 | succ n ih =>
  intro l t h hv
  by_cases hne:l=[]
  ·subst hne;rfl
  ·have hl:0 < l.length:=List.length_pos_iff.2 hne
   have e:=rfix_step l hne
   rw [hv] at e
   by_cases h0:szL l=0
   ·rw [if_pos h0] at e
    have:=congrArg List.length e
    have h2:=rfix_len_ge (l.drop 1)
    rw [List.length_append,List.length_cons,List.length_cons,List.length_cons,List.length_nil] at this
    rw [List.length_drop] at h2
    omega
   ·rw [if_neg h0] at e
    have e2:rfix (l.drop (szL l))=l.drop (szL l):=by
     have e3:l.take (szL l) ++ l.drop (szL l)=l.take (szL l) ++ rfix (l.drop (szL l)):=(List.take_append_drop _ _).trans e
     exact(List.append_cancel_left e3).symm
    have hlt:l ++ t=l.take (szL l) ++ (l.drop (szL l) ++ t):=by rw [← List.append_assoc,List.take_append_drop]
    obtain⟨h1,h2⟩:=szL_app l (l.drop (szL l) ++ t) h0
    rw [hlt,rfix_step _ (by intro e4;have:=congrArg List.length e4;rw [List.length_append,h2] at this;simp at this;omega),h1,if_neg h0,List.take_left' h2,List.drop_left' h2,ih _ _ (by rw [List.length_drop];omega) e2,← List.append_assoc,List.take_append_drop]
theorem rfix_append (l t:List UInt8)(h1:rfix l=l)(h2:rfix t=t):rfix (l ++ t)=l ++ t:=by
 rw [rfix_cat l.length l t (Nat.le_refl _) h1,h2]
theorem pts_valid (n:Nat):∀(l:List UInt8),l.length≤n→rfix l=l→∀x∈ptsL l,rfix x=x:=by
 induction n with
 | zero =>
  intro l h _ x hx
  have:l=[]:=List.eq_nil_of_length_eq_zero (by omega)
  subst this
  cases hx
 | succ n ih =>
  intro l h hv x hx
  by_cases hne:l=[]
  ·subst hne;cases hx
  ·have hl:0 < l.length:=List.length_pos_iff.2 hne
   have e:=rfix_step l hne
   rw [hv] at e
   by_cases h0:szL l=0
   ·rw [if_pos h0] at e
    have:=congrArg List.length e
    have h2:=rfix_len_ge (l.drop 1)
    rw [List.length_append,List.length_cons,List.length_cons,List.length_cons,List.length_nil] at this
    rw [List.length_drop] at h2
    omega
   ·rw [if_neg h0] at e
    have e2:rfix (l.drop (szL l))=l.drop (szL l):=by
     have e3:l.take (szL l) ++ l.drop (szL l)=l.take (szL l) ++ rfix (l.drop (szL l)):=(List.take_append_drop _ _).trans e
     exact(List.append_cancel_left e3).symm
    rw [ptsL_step l hne,show max (szL l) 1=szL l by omega,List.mem_cons] at hx
    rcases hx with rfl | hx
    ·obtain⟨h1,h2⟩:=szL_app l [] h0
     rw [List.append_nil] at h1
     have e5:=rfix_step (l.take (szL l)) (by intro e4;have:=congrArg List.length e4;rw [h2] at this;simp at this;omega)
     have e6:(l.take (szL l)).take (szL l)=l.take (szL l):=by rw [List.take_take,Nat.min_self]
     have e7:(l.take (szL l)).drop (szL l)=[]:=List.drop_eq_nil_of_le (by omega)
     rw [h1,if_neg h0,e6,e7,rfix_nil,List.append_nil] at e5
     exact e5
    ·exact ih _ (by rw [List.length_drop];omega) e2 x hx
theorem flat_valid:∀(P:List (List UInt8)),(∀x∈P,rfix x=x)→rfix P.flatten=P.flatten
 | [],_=>rfl
 | x :: P,h=>by
  rw [List.flatten_cons]
  exact rfix_append _ _ (h x (by simp)) (flat_valid P fun y hy=>h y (by simp [hy]))
theorem joinL_valid (l:List UInt8)(hv:rfix l=l)(a b:Nat):rfix (joinL (ptsL l) a b)=joinL (ptsL l) a b :=
 flat_valid _ fun x hx=>pts_valid l.length l (Nat.le_refl _) hv x (List.mem_of_mem_take (List.mem_of_mem_drop hx))
end Go.Proofs.YtfelmdkeaacfeaaGreatDoor.W
end
