/- Texts joined: Nm Cells Sel Mn. -/
import Derived.Test.YtfelmdkeaacfeaaGreatDoorTB1
import Derived.Test.YtfelmdkeaacfeaaGreatDoorTB12
import Derived.Test.YtfelmdkeaacfeaaGreatDoorTB10
import Derived.Test.YtfelmdkeaacfeaaGreatDoorTB7
import Derived.Test.YtfelmdkeaacfeaaGreatDoorTB4
set_option maxRecDepth 100000
set_option maxHeartbeats 40000000
set_option linter.unusedVariables false
set_option linter.unusedSimpArgs false
section
namespace Go.Proofs.YtfelmdkeaacfeaaGreatDoor.W
open Go.RowKit
def okA (l:List UInt8):Bool:=decide (l≠[]) && (Lib.validD l && decide (l.map oH=l)) && !Lib.containsAny l xe
def headB (l:List UInt8):Bool:=okA l && decide (Lib.indexByte (l.drop 1) 61 < 0)
def uB (l:List UInt8):Bool:=okA l && (decide (97≤(l.getD 0 0).toNat) && decide ((l.getD 0 0).toNat≤122))
theorem Gl (l:List UInt8):(⟨l.toArray⟩:ByteArray).size=l.length:=by show l.toArray.size=_;simp
theorem rC (l:List UInt8)(w:World)(hs:l.length≤100000000)(hT:Laid w):Calls Tryz.prog 124 #[.string ⟨l.toArray⟩] w fun e w'=>e=.returned (.bool (Lib.validD l))∧Below w.heap.size w w':=by
 have H:=ae (Fe ⟨l.toArray⟩ w (by show l.toArray.size≤_;simp;omega) hT)
 simp only [show(⟨l.toArray⟩:ByteArray).data.toList=l from rfl] at H
 go_enter Tryz.func124,Tryz.ntmps124
 go_wp2_with fail
 refine H.out.mono ?_
 rintro e w' ⟨rfl,hb⟩
 go_wp2_with fail
 go_ret
 exact⟨rfl,hb⟩
theorem Na (l:List UInt8)(w:World)(hs:l.length≤100000000)(hT:Laid w):Calls Tryz.prog 105 #[.string ⟨l.toArray⟩] w fun e w'=>e=.returned (.bool (Lib.validD l && decide (l.map oH=l)))∧Below w.heap.size w w':=by
 have HV:=ae (rC l w hs hT)
 have HL:=ae (fun wx=>BA ⟨l.toArray⟩ (by show l.toArray.size≤_;simp;omega) wx)
 simp only [show(⟨l.toArray⟩:ByteArray).data.toList=l from rfl] at HL
 have hse:=str_eq (l.map oH) l
 clear hT
 cases hv:Lib.validD l
 ·rw [hv] at HV
  go_enter Tryz.func105,Tryz.ntmps105
  go_wp2_with fail
  refine HV.out.mono ?_
  rintro e w' ⟨rfl,hb1⟩
  go_wp2_with fail
  go_ret
  exact⟨rfl,hb1⟩
 ·rw [hv] at HV
  rw [wY]
  generalize (⟨(l.map oH).toArray⟩:ByteArray)=s1 at *
  generalize (⟨l.toArray⟩:ByteArray)=s at *
  go_enter Tryz.func105,Tryz.ntmps105
  go_wp2_with fail
  refine HV.out.mono ?_
  rintro e w' ⟨rfl,hb1⟩
  go_wp2_with fail
  refine(HL.out _).mono ?_
  rintro e w2 ⟨rfl,hb⟩
  go_wp2_with fail
  go_ret
  exact⟨by first | rfl | simp [hse],aV hb1 hb⟩
theorem CS (l:List UInt8)(h:l≠[]):((⟨l.toArray⟩:ByteArray).toList == (⟨#[]⟩:ByteArray).toList)=false∧((⟨l.toArray⟩:ByteArray).toList == [])=false∧(⟨l.toArray⟩:ByteArray).toList≠[]:=by
 refine⟨?_,?_,?_⟩
 ·rw [show(⟨#[]⟩:ByteArray)=⟨([]:List UInt8).toArray⟩ from rfl,str_eq]
  exact eP h
 ·rw [oh];simpa using h
 ·rw [oh];exact h
theorem Jy (l:List UInt8):(⟨l.toArray⟩:ByteArray).extract 1 l.length=⟨(l.drop 1).toArray⟩:=by
 apply XA
 apply XP.1
 have:=Lib.extract_to_end ⟨l.toArray⟩ 1
 rw [Gl] at this
 exact this
theorem yC (l:List UInt8)(hl:l.length≤1000000)(w:World)(hT:Laid w):Calls Tryz.prog 62 #[.string ⟨l.toArray⟩] w fun e w'=>e=.returned (.bool (headB l))∧Below w.heap.size w w':=by
 unfold headB okA
 by_cases hn:l=[]
 ·subst hn
  go_enter Tryz.func62,Tryz.ntmps62
  go_wp2_with fail
  go_ret
  exact⟨rfl,ak _ _⟩
 ·rw [dZ hn,wY]
  have hsz:=Gl l
  have hl0:1≤l.length:=by cases l with | nil=>exact absurd rfl hn | cons a t=>simp
  have HV:=ae (Na l w (by omega) hT)
  have HC:=ae (fun w=>uN ⟨l.toArray⟩ w (by rw [hsz];omega))
  simp only [show(⟨l.toArray⟩:ByteArray).data.toList=l from rfl] at HC
  have hx:=Jy l
  have HI:=ae (fun w=>Tryz.strings_IndexByte ⟨(l.drop 1).toArray⟩ 61 w)
  simp only [show(⟨(l.drop 1).toArray⟩:ByteArray).data.toList=l.drop 1 from rfl,show(61:Int).toNat.toUInt8=61 from rfl] at HI
  obtain⟨hne,hne3,hne4⟩:=CS l hn
  generalize hs:(⟨l.toArray⟩:ByteArray)=s at *
  clear hT hs
  generalize (⟨(l.drop 1).toArray⟩:ByteArray)=s1 at *
  generalize (Lib.validD l && decide (l.map oH=l))=bl at *
  generalize Lib.containsAny l xe=bc at *
  generalize Lib.indexByte (l.drop 1) 61=ib at *
  cases bl
  ·go_enter Tryz.func62,Tryz.ntmps62
   go_wp2_with fail
   refine HV.out.mono ?_
   rintro e w1 ⟨rfl,hb1⟩
   go_wp2_with fail
   go_ret
   exact⟨rfl,hb1⟩
  ·cases bc
   ·go_enter Tryz.func62,Tryz.ntmps62
    go_wp2_with fail
    refine HV.out.mono ?_
    rintro e w1 ⟨rfl,hb1⟩
    go_wp2_with fail
    refine(HC.out _).mono ?_
    rintro e w2 ⟨rfl,hb2⟩
    go_wp2_with fail
    refine(HI.out _).mono ?_
    rintro e w3 ⟨rfl,hw⟩
    rw [hw]
    go_wp2_with fail
    go_ret
    exact⟨rfl,aV hb1 hb2⟩
   ·go_enter Tryz.func62,Tryz.ntmps62
    go_wp2_with fail
    refine HV.out.mono ?_
    rintro e w1 ⟨rfl,hb1⟩
    go_wp2_with fail
    refine(HC.out _).mono ?_
    rintro e w2 ⟨rfl,hb2⟩
    go_wp2_with fail
    go_ret
    exact⟨rfl,aV hb1 hb2⟩
theorem Gf (l:List UInt8)(h:0 < (⟨l.toArray⟩:ByteArray).size):((⟨l.toArray⟩:ByteArray)[0]'h)=l.getD 0 0:=by
 cases l with
 | nil=>exact absurd h (by decide)
 | cons a t=>rfl
theorem xN (l:List UInt8)(hl:l.length≤1000000)(w:World)(hT:Laid w):Calls Tryz.prog 86 #[.string ⟨l.toArray⟩] w fun e w'=>e=.returned (.bool (uB l))∧Below w.heap.size w w':=by
 unfold uB okA
 by_cases hn:l=[]
 ·subst hn
  go_enter Tryz.func86,Tryz.ntmps86
  go_wp2_with fail
  go_ret
  exact⟨rfl,ak _ _⟩
 ·rw [dZ hn,wY]
  have hsz:=Gl l
  have hl0:1≤l.length:=by cases l with | nil=>exact absurd rfl hn | cons a t=>simp
  have h0:0 < (⟨l.toArray⟩:ByteArray).size:=by rw [hsz];omega
  have hg:=Gf l h0
  have HV:=ae (Na l w (by omega) hT)
  have HC:=ae (fun w=>uN ⟨l.toArray⟩ w (by rw [hsz];omega))
  simp only [show(⟨l.toArray⟩:ByteArray).data.toList=l from rfl] at HC
  obtain⟨hne,hne3,hne4⟩:=CS l hn
  generalize hs:(⟨l.toArray⟩:ByteArray)=s at *
  clear hT hs
  generalize (Lib.validD l && decide (l.map oH=l))=bl at *
  generalize Lib.containsAny l xe=bc at *
  rw [← hg]
  clear hg
  by_cases c0:97≤(s[0]'h0).toNat
  ·have d0:decide ((97:Int)≤((s[0]'h0).toNat:Int))=true:=by simp;omega
   rw [dZ c0]
   by_cases c1:(s[0]'h0).toNat≤122
   ·have d1:decide (((s[0]'h0).toNat:Int)≤122)=true:=by simp;omega
    rw [dZ c1]
    cases bl
    ·go_enter Tryz.func86,Tryz.ntmps86
     go_wp2_with fail
     refine HV.out.mono ?_
     rintro e w1 ⟨rfl,hb1⟩
     go_wp2_with fail
     go_ret
     exact⟨rfl,hb1⟩
    ·cases bc
     ·go_enter Tryz.func86,Tryz.ntmps86
      go_wp2_with fail
      refine HV.out.mono ?_
      rintro e w1 ⟨rfl,hb1⟩
      go_wp2_with fail
      refine(HC.out _).mono ?_
      rintro e w2 ⟨rfl,hb2⟩
      go_wp2_with fail
      go_ret
      exact⟨rfl,aV hb1 hb2⟩
     ·go_enter Tryz.func86,Tryz.ntmps86
      go_wp2_with fail
      refine HV.out.mono ?_
      rintro e w1 ⟨rfl,hb1⟩
      go_wp2_with fail
      refine(HC.out _).mono ?_
      rintro e w2 ⟨rfl,hb2⟩
      go_wp2_with fail
      go_ret
      exact⟨rfl,aV hb1 hb2⟩
   ·have d1:decide (((s[0]'h0).toNat:Int)≤122)=false:=by simp;omega
    rw [eP c1]
    go_enter Tryz.func86,Tryz.ntmps86
    go_wp2_with fail
    go_ret
    exact⟨by simp,ak _ _⟩
  ·have d0:decide ((97:Int)≤((s[0]'h0).toNat:Int))=false:=by simp;omega
   rw [eP c0]
   go_enter Tryz.func86,Tryz.ntmps86
   go_wp2_with fail
   go_ret
   exact⟨by simp,ak _ _⟩
/-! ### the reference -/
def TS (c:Nat):Bool:=decide (c=9∨c=10∨c=12∨c=13∨c=32)
def badR (c:Nat):Bool:=TS c || decide (c=47) || decide (c=62) || (decide (65≤c) && decide (c≤90))
theorem NM (c:Nat)(w:World):Calls Tryz.prog 134 #[.int .u8 (c:Int)] w fun e w'=>e=.returned (.bool (TS c))∧w'=w:=by
 unfold TS
 generalize hx:(c:Int)=x
 by_cases q0:c=9
 ·have e0:x=9:=by omega
  rw [dZ (by omega)]
  clear hx q0
  go_enter Tryz.func134,Tryz.ntmps134
  go_wp2
  go_ret
  exact⟨rfl,rfl⟩
 have e0:(x == 9)=false:=by simp;omega
 by_cases q1:c=10
 ·have e1:(x == 10)=true:=by simp;omega
  rw [dZ (by omega)]
  go_enter Tryz.func134,Tryz.ntmps134
  go_wp2
  go_ret
  exact⟨rfl,rfl⟩
 have e1:(x == 10)=false:=by simp;omega
 by_cases q2:c=12
 ·have e2:(x == 12)=true:=by simp;omega
  rw [dZ (by omega)]
  go_enter Tryz.func134,Tryz.ntmps134
  go_wp2
  go_ret
  exact⟨rfl,rfl⟩
 have e2:(x == 12)=false:=by simp;omega
 by_cases q3:c=13
 ·have e3:(x == 13)=true:=by simp;omega
  rw [dZ (by omega)]
  go_enter Tryz.func134,Tryz.ntmps134
  go_wp2
  go_ret
  exact⟨rfl,rfl⟩
 have e3:(x == 13)=false:=by simp;omega
 by_cases q4:c=32
 ·have e4:(x == 32)=true:=by simp;omega
  rw [dZ (by omega)]
  go_enter Tryz.func134,Tryz.ntmps134
  go_wp2
  go_ret
  exact⟨rfl,rfl⟩
 ·have e4:(x == 32)=false:=by simp;omega
  rw [eP (by omega)]
  go_enter Tryz.func134,Tryz.ntmps134
  go_wp2
  go_ret
  exact⟨rfl,rfl⟩
theorem PD (c:Nat)(b:Bool)(hb:TS c=b)(w:World):Calls Tryz.prog 134 #[.int .u8 (c:Int)] w fun e w'=>e=.returned (.bool b)∧w'=w:=hb ▸ NM c w
def atR (l:List UInt8):Bool:=!(l.any fun c=>badR c.toNat) && (decide (l≠[]) && decide (ik l=l))
theorem JO (l:List UInt8)(p:UInt8→Bool)(i:Nat)(h:l.any p=(l.drop i).any p)(b:UInt8)(hb:l[i]? = some b)(hp:p b=false):l.any p=(l.drop (i+1)).any p:=by
 have hi:=(ai.1 hb).1
 have e:l.drop i=b :: l.drop (i+1):=by
  rw [qA hi]
  congr 1
  exact(ai.1 hb).2
 rw [h,e,List.any_cons,hp,iE]
theorem SL (l:List UInt8)(p:UInt8→Bool)(i:Nat)(b:UInt8)(hb:l[i]? = some b)(hp:p b=true):l.any p=true:=WZ.2 ⟨b,ah hb,hp⟩
theorem xO (l:List UInt8)(hl:l.length≤1000000)(w:World):Calls Tryz.prog 121 #[.string ⟨l.toArray⟩] w fun e w'=>e=.returned (.bool (atR l))∧Below w.heap.size w w':=by
 have hsz:=Gl l
 have HR:=ae (fun wx=>pU l wx (by omega))
 have hse:=str_eq (ik l) l
 have HG:=ae (fun(i:Nat) (hi:i < l.length)=>(show ∃h:i < (⟨l.toArray⟩:ByteArray).size,l[i]? = some ((⟨l.toArray⟩:ByteArray)[i]'h) from⟨by rw [hsz];exact hi,Xa ⟨l.toArray⟩ i (by rw [hsz];exact hi)⟩))
 have hnn:=fun h=>CS l h
 have HS:=ae (fun c b hb wx=>PD c b hb wx)
 have HD:=ae (fun i h b hb hp=>JO l (fun c=>badR c.toNat) i h b hb hp)
 have HH:=ae (fun i b hb hp=>SL l (fun c=>badR c.toNat) i b hb hp)
 generalize hs:(⟨l.toArray⟩:ByteArray)=s at *
 go_enter Tryz.func121,Tryz.ntmps121
 go_wp2_with fail
 go_loopw [3,4] (fun iv _ wr=>∃i:Nat,i≤l.length∧iv=.int .i64 (i:Int)∧(l.any fun c=>badR c.toNat)=((l.drop i).any fun c=>badR c.toNat)∧Below w.heap.size w wr) (fun iv _ _=>l.length - iW iv)
 case atStart=>exact⟨0,by omega,rfl,rfl,ak _ _⟩
 case round =>
  obtain⟨i,hi,rfl,hany,hB⟩:=hrel
  have HA:=ae hany
  clear hany
  by_cases hlt:i < l.length
  ·obtain⟨hi2,hget⟩:=HG.out i hlt
   have hlt2:(i:Int) < (s.size:Int):=by omega
   obtain⟨x,hx⟩:∃x,s[i]'hi2=x:=⟨_,rfl⟩
   rw [hx] at hget
   have hq0:∀b,badR x.toNat=b→TS x.toNat=true→b=true:=fun b h1 h2=>by rw [← h1];unfold badR;rw [h2];simp
   have HX:=ae hx
   have HGt:=ae hget
   clear hget
   rw [← hx] at hq0
   by_cases hsp:TS (s[i]'hi2).toNat=true
   ·have HC:=ae (fun wx=>HS.out (s[i]'hi2).toNat true hsp wx)
    have hres:atR l=false:=by unfold atR;rw [HH.out i x HGt.out (by show badR x.toNat=true;rw [← HX.out];unfold badR;rw [hsp];simp)];simp
    have HRes:=ae hres
    clear hq0 hsp hres hx
    go_wp2_with fail
    refine(HC.out _).mono ?_
    rintro e wz ⟨rfl,hw⟩
    subst wz
    go_wp2_with fail
    go_ret
    exact⟨by rw [HRes.out];rfl,hB⟩
   ·have hsp':TS (s[i]'hi2).toNat=false:=by simpa using hsp
    have HC:=ae (fun wx=>HS.out (s[i]'hi2).toNat false hsp' wx)
    by_cases h47:(s[i]'hi2).toNat=47
    ·have e47:((((s[i]'hi2).toNat:Nat):Int) == 47)=true:=by simp;omega
     have hres:atR l=false:=by unfold atR;rw [HH.out i x HGt.out (by show badR x.toNat=true;rw [← HX.out];unfold badR;simp [h47])];simp
     have HRes:=ae hres
     clear hq0 hsp hsp' hres hx h47
     go_wp2_with fail
     refine(HC.out _).mono ?_
     rintro e wz ⟨rfl,hw⟩
     subst wz
     go_wp2_with fail
     go_ret
     exact⟨by rw [HRes.out];rfl,hB⟩
    ·have e47:((((s[i]'hi2).toNat:Nat):Int) == 47)=false:=by simp;omega
     by_cases h62:(s[i]'hi2).toNat=62
     ·have e62:((((s[i]'hi2).toNat:Nat):Int) == 62)=true:=by simp;omega
      have hres:atR l=false:=by unfold atR;rw [HH.out i x HGt.out (by show badR x.toNat=true;rw [← HX.out];unfold badR;simp [h62])];simp
      have HRes:=ae hres
      clear hq0 hsp hsp' hres hx h47 h62
      go_wp2_with fail
      refine(HC.out _).mono ?_
      rintro e wz ⟨rfl,hw⟩
      subst wz
      go_wp2_with fail
      go_ret
      exact⟨by rw [HRes.out];rfl,hB⟩
     ·have e62:((((s[i]'hi2).toNat:Nat):Int) == 62)=false:=by simp;omega
      by_cases h65:65≤(s[i]'hi2).toNat
      ·have e65:decide ((65:Int)≤(((s[i]'hi2).toNat:Nat):Int))=true:=by simp;omega
       by_cases h90:(s[i]'hi2).toNat≤90
       ·have e90:decide ((((s[i]'hi2).toNat:Nat):Int)≤90)=true:=by simp;omega
        have hres:atR l=false:=by unfold atR;rw [HH.out i x HGt.out (by show badR x.toNat=true;rw [← HX.out];unfold badR;simp [h65,h90])];simp
        have HRes:=ae hres
        clear hq0 hsp hsp' hres hx h47 h62 h65 h90
        go_wp2_with fail
        refine(HC.out _).mono ?_
        rintro e wz ⟨rfl,hw⟩
        subst wz
        go_wp2_with fail
        go_ret
        exact⟨by rw [HRes.out];rfl,hB⟩
       ·have e90:decide ((((s[i]'hi2).toNat:Nat):Int)≤90)=false:=by simp;omega
        have hbad:badR x.toNat=false:=by rw [← HX.out];unfold badR;simp [hsp',h47,h62];omega
        have HN:=ae (HD.out i HA.out x HGt.out hbad)
        clear hq0 hsp hsp' hbad hx h47 h62 h65 h90
        go_wp2_with fail
        refine(HC.out _).mono ?_
        rintro e wz ⟨rfl,hw⟩
        subst wz
        go_wp2_with fail
        exact⟨⟨i+1,by omega,by first | rfl | simp,HN.out,hB⟩,by simp only [iW];omega⟩
      ·have e65:decide ((65:Int)≤(((s[i]'hi2).toNat:Nat):Int))=false:=by simp;omega
       have hbad:badR x.toNat=false:=by rw [← HX.out];unfold badR;simp [hsp',h47,h62];omega
       have HN:=ae (HD.out i HA.out x HGt.out hbad)
       clear hq0 hsp hsp' hbad hx h47 h62 h65
       go_wp2_with fail
       refine(HC.out _).mono ?_
       rintro e wz ⟨rfl,hw⟩
       subst wz
       go_wp2_with fail
       exact⟨⟨i+1,by omega,by first | rfl | simp,HN.out,hB⟩,by simp only [iW];omega⟩
  ·obtain rfl:i=l.length:=by omega
   have hlt2:¬(l.length:Int) < (s.size:Int):=by omega
   have hany:=HA.out
   rw [vw] at hany
   have hres:atR l=(decide (l≠[]) && decide (ik l=l)):=by unfold atR;rw [hany];rfl
   clear hany
   by_cases hn:l=[]
   ·have hs0:s=⟨#[]⟩:=by rw [← hs,hn]
    rw [eP (by simpa using hn)] at hres
    have HRes:=ae hres
    clear hnn HR hse hres
    subst hs0
    go_wp2_with fail
    go_ret
    exact⟨by first | rfl | (rw [HRes.out];rfl),hB⟩
   ·obtain⟨hne,hne3,hne4⟩:=hnn hn
    rw [dZ hn,wY] at hres
    have HRes:=ae hres
    have HB:=ae hB
    clear hnn hres
    generalize (⟨(ik l).toArray⟩:ByteArray)=s2 at *
    go_wp2_with fail
    refine(HR.out _).mono ?_
    rintro e w2 ⟨rfl,hb2⟩
    go_wp2_with fail
    go_ret
    exact⟨by rw [HRes.out];first | rfl | simp [hse],aV HB.out hb2⟩
/-! ### the two agree -/
theorem SK (c:UInt8):badR c.toNat=(xe.contains c || decide (oH c≠c)):=by
 have h:=c.toNat_lt
 have:∀n:Fin 256,badR n.val=(xe.contains (UInt8.ofNat n.val) || decide (oH (UInt8.ofNat n.val)≠UInt8.ofNat n.val)):=by decide +kernel
 have:=this ⟨c.toNat,h⟩
 simpa using this
theorem yw (l:List UInt8):Lib.containsAny l xe=l.any (fun c=>xe.contains c):=by
 unfold Lib.containsAny
 by_cases h:l.any (fun c=>xe.contains c)=true
 ·rw [h]
  obtain⟨b,hb,hc⟩:=WZ.1 h
  rw [zY]
  rcases(show Lib.indexAny l xe < 0∨0≤Lib.indexAny l xe by omega) with hlt | hge
  ·exfalso
   have hge:=Lib.indexAny_ge xe l
   obtain⟨j,hj⟩:=aI.1 hb
   -- the first that is in the list
   obtain⟨i,hi,x,hx,hmin⟩:∃i,Lib.NoAny l xe i∧∃x,l[i]? = some x∧xe.contains x=true:=by
    clear hlt hge
    induction j using Nat.strongRecOn generalizing b with
    | ind j ih =>
     by_cases q:∃k y,k < j∧l[k]? = some y∧xe.contains y=true
     ·obtain⟨k,y,hk,hy,hyc⟩:=q
      exact ih k hk y (ah hy) hyc hy
     ·refine⟨j,fun k y hk hy=>?_,b,hj,hc⟩
      cases e:xe.contains y with
      | false=>rfl
      | true=>exact absurd ⟨k,y,hk,hy,e⟩ q
   rw [Lib.indexAny_hit hi hx hmin] at hlt
   omega
  ·exact hge
 ·have h':l.any (fun c=>xe.contains c)=false:=by simpa using h
  rw [h',Yb,Lib.indexAny_none]
  ·omega
  ·intro j b _ hb
   rw [XG] at h'
   simpa using h' b (ah hb)
theorem Le (l:List UInt8):(l.map oH=l)↔(l.any fun c=>decide (oH c≠c))=false:=by
 rw [XG]
 induction l with
 | nil=>simp
 | cons b l ih =>
  rw [fE,fG,ih]
  simp
theorem QT (l:List UInt8):atR l=okA l:=by
 unfold atR okA
 have e1:(l.any fun c=>badR c.toNat)=((l.any fun c=>xe.contains c) || (l.any fun c=>decide (oH c≠c))):=by
  induction l with
  | nil=>rfl
  | cons b l ih =>
   rw [List.any_cons,List.any_cons,List.any_cons,ih,SK]
   cases xe.contains b <;> cases decide (oH b≠b) <;> simp
 rw [e1,yw]
 have e2:decide (ik l=l)=Lib.validD l:=by
  have:=vH l
  cases hv:Lib.validD l with
  | true=>exact dZ (this.1 hv)
  | false=>exact eP fun h=>by have:=this.2 h;rw [hv] at this;cases this
 have e3:decide (l.map oH=l)=!(l.any fun c=>decide (oH c≠c)):=by
  have:=Le l
  cases hv:(l.any fun c=>decide (oH c≠c)) with
  | false=>exact dZ (this.2 hv)
  | true=>exact eP fun h=>by have:=this.1 h;rw [hv] at this;cases this
 rw [e2,e3]
 cases (l.any fun c=>xe.contains c) <;> cases (l.any fun c=>decide (oH c≠c)) <;> cases decide (l≠[]) <;> cases Lib.validD l <;> rfl
theorem xM (c:UInt8):∀l:List UInt8,decide (Lib.indexByte l c < 0)=!(l.any fun b=>b == c)
 | []=>rfl
 | b :: l=>by
  have ih:=xM c l
  have hge:=Lib.indexByte_ge l c
  unfold Lib.indexByte
  rw [List.any_cons]
  by_cases h:(b == c)=true
  ·rw [aC h,h];rfl
  ·have h':(b == c)=false:=by simpa using h
   rw [ax h,h',iE,← ih]
   by_cases h2:(Lib.indexByte l c == -1)=true
   ·rw [aC h2]
    have:Lib.indexByte l c=-1:=by simpa using h2
    rw [this]
   ·rw [ax h2]
    have:Lib.indexByte l c≠-1:=by simpa using h2
    rw [eP (by omega),eP (by omega)]
theorem Ee (l:List UInt8)(hl:l.length≤1000000)(w:World):Calls Tryz.prog 91 #[.string ⟨l.toArray⟩] w fun e w'=>e=.returned (.bool (headB l))∧Below w.heap.size w w':=by
 have hsz:=Gl l
 have HAt:=ae (fun wx=>xO l hl wx)
 rw [QT] at HAt
 have HG:=ae (fun(i:Nat) (hi:i < l.length)=>(show ∃h:i < (⟨l.toArray⟩:ByteArray).size,l[i]? = some ((⟨l.toArray⟩:ByteArray)[i]'h) from⟨by rw [hsz];exact hi,Xa ⟨l.toArray⟩ i (by rw [hsz];exact hi)⟩))
 have HD:=ae (fun i h b hb hp=>JO l (fun c=>c == 61) i h b hb hp)
 have hresE:headB l=(!((l.drop 1).any fun c=>c == 61) && okA l):=by
  unfold headB
  rw [xM,Bool.and_comm]
 have HResE:=ae hresE
 generalize hs:(⟨l.toArray⟩:ByteArray)=s at *
 clear hresE
 go_enter Tryz.func91,Tryz.ntmps91
 go_wp2_with fail
 go_loopw [3] (fun iv wr=>∃i:Nat,1≤i∧iv=.int .i64 (i:Int)∧((l.drop 1).any fun c=>c == 61)=((l.drop i).any fun c=>c == 61)∧wr=w) (fun iv _=>l.length - iW iv)
 case atStart=>exact⟨1,by omega,rfl,rfl,rfl⟩
 case round =>
  obtain⟨i,hi,rfl,hany,rfl⟩:=hrel
  have HA:=ae hany
  clear hany
  by_cases hlt:i < l.length
  ·obtain⟨hi2,hget⟩:=HG.out i hlt
   have hlt2:(i:Int) < (s.size:Int):=by omega
   have hdr:l.drop i=(s[i]'hi2) :: l.drop (i+1):=by
    rw [qA hlt]
    congr 1
    exact(ai.1 hget).2
   by_cases h61:(s[i]'hi2).toNat=61
   ·have e61:((((s[i]'hi2).toNat:Nat):Int) == 61)=true:=by simp;omega
    have hres:headB l=false:=by
     rw [HResE.out,HA.out,hdr,List.any_cons]
     have:((s[i]'hi2) == 61)=true:=by
      have:s[i]'hi2=61:=UInt8.toNat_inj.1 h61
      rw [this];rfl
     rw [this];simp
    have HRes:=ae hres
    clear hres hdr hget h61
    go_wp2_with fail
    go_ret
    exact⟨by rw [HRes.out];rfl,ak _ _⟩
   ·have e61:((((s[i]'hi2).toNat:Nat):Int) == 61)=false:=by simp;omega
    have hstep:((l.drop 1).any fun c=>c == 61)=((l.drop (i+1)).any fun c=>c == 61):=by
     rw [HA.out,hdr,List.any_cons]
     have:((s[i]'hi2) == 61)=false:=by
      rw [eY]
      intro e
      exact h61 (by rw [e];rfl)
     rw [this,iE]
    have HN:=ae hstep
    clear hstep hdr hget h61
    go_wp2_with fail
    exact⟨⟨i+1,by omega,by first | rfl | simp,HN.out,by trivial⟩,by simp only [iW];omega⟩
  ·have hlt2:¬(i:Int) < (s.size:Int):=by omega
   have hres:headB l=okA l:=by
    rw [HResE.out,HA.out,fK (by omega)]
    simp
   have HRes:=ae hres
   clear hres
   go_wp2_with fail
   refine(HAt.out _).mono ?_
   rintro e w2 ⟨rfl,hb2⟩
   go_wp2_with fail
   go_ret
   exact⟨by rw [HRes.out];rfl,hb2⟩
theorem JB (l:List UInt8)(hl:l.length≤1000000)(w:World):Calls Tryz.prog 90 #[.string ⟨l.toArray⟩] w fun e w'=>e=.returned (.bool (uB l))∧Below w.heap.size w w':=by
 unfold uB
 by_cases hn:l=[]
 ·subst hn
  go_enter Tryz.func90,Tryz.ntmps90
  go_wp2_with fail
  go_ret
  exact⟨rfl,ak _ _⟩
 ·have hsz:=Gl l
  have hl0:1≤l.length:=by cases l with | nil=>exact absurd rfl hn | cons a t=>simp
  have h0:0 < (⟨l.toArray⟩:ByteArray).size:=by rw [hsz];omega
  have hg:=Gf l h0
  have HAt:=ae (fun wx=>xO l hl wx)
  rw [QT] at HAt
  obtain⟨hne,hne3,hne4⟩:=CS l hn
  generalize hs:(⟨l.toArray⟩:ByteArray)=s at *
  clear hs
  generalize okA l=bo at *
  rw [← hg]
  clear hg
  by_cases c0:97≤(s[0]'h0).toNat
  ·have d0:decide ((97:Int)≤((s[0]'h0).toNat:Int))=true:=by simp;omega
   rw [dZ c0]
   by_cases c1:(s[0]'h0).toNat≤122
   ·have d1:decide (((s[0]'h0).toNat:Int)≤122)=true:=by simp;omega
    rw [dZ c1]
    go_enter Tryz.func90,Tryz.ntmps90
    go_wp2_with fail
    refine(HAt.out _).mono ?_
    rintro e w1 ⟨rfl,hb1⟩
    go_wp2_with fail
    go_ret
    exact⟨by simp,hb1⟩
   ·have d1:decide (((s[0]'h0).toNat:Int)≤122)=false:=by simp;omega
    rw [eP c1]
    go_enter Tryz.func90,Tryz.ntmps90
    go_wp2_with fail
    go_ret
    exact⟨by simp,ak _ _⟩
  ·have d0:decide ((97:Int)≤((s[0]'h0).toNat:Int))=false:=by simp;omega
   rw [eP c0]
   go_enter Tryz.func90,Tryz.ntmps90
   go_wp2_with fail
   go_ret
   exact⟨by simp,ak _ _⟩
end Go.Proofs.YtfelmdkeaacfeaaGreatDoor.W
end
section
namespace Go.Proofs.YtfelmdkeaacfeaaGreatDoor.W
open Go.RowKit
def kZ:List Value→Nat→List Value→List Value
 | l,_,[]=>l
 | l,o,x :: r=>kZ (l.set o x) (o+1) r
theorem Bo (pre rest:List Value):∀(bs:List Value) (o:Nat),kZ (pre ++ rest) (pre.length+o) bs=pre ++ kZ rest o bs:=by
 intro bs
 induction bs generalizing rest with
 | nil=>intro o;rfl
 | cons b bs ih =>
  intro o
  simp only [kZ]
  rw [uU _ _ (by omega),show pre.length+o - pre.length=o by omega,show pre.length+o+1=pre.length+(o+1) by omega]
  exact ih _ _
theorem IV:∀(xs bs rest:List Value),xs.length=bs.length→kZ (xs ++ rest) 0 bs=bs ++ rest:=by
 intro xs
 induction xs with
 | nil=>intro bs rest h;cases bs with | nil=>rfl | cons b bs=>simp at h
 | cons a xs ih =>
  intro bs rest h
  cases bs with
  | nil=>simp at h
  | cons b bs =>
   simp only [kZ,List.cons_append,List.set_cons_zero]
   have:=Bo [b] (xs ++ rest) bs 0
   simp only [List.cons_append,List.nil_append,List.length_cons,List.length_nil,aJ,Nat.add_zero] at this
   rw [aJ,this,ih bs rest (by simpa using h)]
variable {α : Type} {enc : α → List Value} {m : Nat}
def rows (enc:α→List Value):List α→List Value
 | []=>[]
 | x :: r=>enc x ++ rows enc r
theorem IW (l r:List α):rows enc (l ++ r)=rows enc l ++ rows enc r:=by
 induction l with
 | nil=>rfl
 | cons x l ih=>simp [rows,ih]
theorem wJ (l:List α)(x:α):rows enc (l ++ [x])=rows enc l ++ enc x:=by rw [IW];simp [rows]
theorem CJ (he:∀v,(enc v).length=m)(l:List α)(i:Nat)(x:α)(h:l[i]? = some x)(j:Nat)(hj:j < m):(rows enc l)[i*m+j]? = (enc x)[j]?:=by
 induction l generalizing i with
 | nil=>simp at h
 | cons y l ih =>
  cases i with
  | zero =>
   simp at h
   subst h
   rw [uS,aJ]
   simp only [rows]
   rw [di (by rw [he];exact hj)]
  | succ i =>
   simp at h
   simp only [rows]
   rw [bZ (by rw [he,XM];omega),he,show(i+1)*m+j - m=i*m+j by rw [XM];omega]
   exact ih i h
theorem tK (he:∀v,(enc v).length=m)(l:List α)(i j:Nat)(x x':α)(u:Value)(h:l[i]? = some x)(hj:j < m)(hx:enc x'=(enc x).set j u):rows enc (l.set i x')=(rows enc l).set (i*m+j) u:=by
 induction l generalizing i with
 | nil=>simp at h
 | cons y l ih =>
  cases i with
  | zero =>
   simp at h
   subst h
   rw [uS,aJ]
   simp only [rows,List.set_cons_zero]
   rw [Xi _ _ (by rw [he];exact hj),hx]
  | succ i =>
   simp at h
   simp only [rows,List.set_cons_succ]
   rw [uU _ _ (by rw [he,XM];omega),he,show(i+1)*m+j - m=i*m+j by rw [XM];omega,ih i h]
end Go.Proofs.YtfelmdkeaacfeaaGreatDoor.W
end
section
namespace Go.Proofs.YtfelmdkeaacfeaaGreatDoor.W
open Go.RowKit
structure MN where
 kind:Int
 name:List UInt8
 attrs:List jR
 data:List UInt8
 par:Option Nat
 kids:List Nat
 gone:Bool
structure MX where
 m:MN
 av:Value
 kv:Value
def pI:Option Nat→Int
 | none=>-1
 | some p=>(p:Int)
def qZ (x:MX):List Value:=[.int .i64 x.m.kind,dA x.m.name,x.av,dA x.m.data,.int .i64 (pI x.m.par),x.kv,.bool x.m.gone]
theorem wP (x:MX):(qZ x).length=7:=rfl
def kC (l:List Nat):List Value:=l.map fun(k:Nat)=>Value.int .i64 (k:Int)
structure Af (Q:Nat) (nv:Value) (X:List MX) (w:World):Prop where
 blk:dD w Q [nv] 84
 row:Own w 81 7 nv X.length (rows qZ X)
 sF:∀x∈X,Own w 92 2 x.av x.m.attrs.length (cu x.m.attrs)
 kid:∀x∈X,Own w 3 1 x.kv x.m.kids.length (kC x.m.kids)
theorem bH {w w':World}{e size n:Nat}{v:Value}{xs:List Value}(h:Own w e size v n xs)(hb:Below w.heap.size w w'):Own w' e size v n xs:=fH h hb
theorem Af.below {Q:Nat}{nv:Value}{X:List MX}{w w':World}(h:Af Q nv X w)(hb:Below w.heap.size w w'):Af Q nv X w' :=
 ⟨h.blk.below hb,bH h.row hb,fun x hx=>bH (h.sF x hx) hb,fun x hx=>bH (h.kid x hx) hb⟩
theorem Af.shape {Q:Nat}{nv:Value}{X:List MX}{w:World}(h:Af Q nv X w)(hn:0 < X.length):∃g cap,nv=.slice (some ⟨g,0,none⟩) X.length cap:=by
 obtain⟨g,cap,e,_⟩:=sK h.row hn
 exact⟨g,cap,e⟩
theorem Af.ptr {Q:Nat}{nv:Value}{X:List MX}{w:World}(h:Af Q nv X w):w.cell? ⟨Q,0,none⟩=some nv:=h.blk.cell 0
theorem Af.cell {Q g cap:Nat}{X:List MX}{w:World}(h:Af Q (.slice (some ⟨g,0,none⟩) X.length cap) X w){i:Nat}{x:MX}(hx:X[i]? = some x)(j:Nat)(hj:j < 7) :
  w.cell? ⟨g,i*7+j,none⟩=(qZ x)[j]?:=by
 have hl:i*7+j < X.length*7:=by have:=(ai.1 hx).1;omega
 rw [h.row.cellAt (i*7+j) hl,CJ wP X i x hx j hj]
theorem Af.Lh {Q:Nat}{nv:Value}{X:List MX}{w:World}(h:Af Q nv X w){x:MX}(hx:x∈X):∃a cap,x.kv=.slice a x.m.kids.length cap:=by
 obtain⟨a,cap,e⟩:=aW (h.kid x hx)
 exact⟨a,cap,e⟩
theorem Af.Ip {Q:Nat}{nv:Value}{X:List MX}{w:World}(h:Af Q nv X w){x:MX}(hx:x∈X):∃a cap,x.av=.slice a x.m.attrs.length cap:=by
 obtain⟨a,cap,e⟩:=aW (h.sF x hx)
 exact⟨a,cap,e⟩
def ms (X:List MX):List MN:=X.map (·.m)
theorem aY (X:List MX):(ms X).length=X.length:=bM _
theorem vS (X:List MX)(i:Nat):(ms X)[i]? = (X[i]?).map (·.m):=bI
def lv (M:List MN)(i:Nat):Option MN:=match M[i]? with | some m=>if m.gone then none else some m | none=>none
theorem lV {M:List MN}{i:Nat}{m:MN}(h:lv M i=some m):M[i]? = some m∧m.gone=false:=by
 unfold lv at h
 cases e:M[i]? with
 | none=>rw [e] at h;cases h
 | some x =>
  rw [e] at h
  simp only [] at h
  split at h
  ·cases h
  ·cases h;rename_i hg;exact⟨rfl,by simpa using hg⟩
theorem DX {M:List MN}{i:Nat}{m:MN}(h:M[i]? = some m)(hg:m.gone=false):lv M i=some m:=by
 unfold lv;rw [h];simp [hg]
theorem qG {X:List MX}{i:Nat}{m:MN}(h:lv (ms X) i=some m):∃x,X[i]? = some x∧x.m=m∧m.gone=false:=by
 obtain⟨h1,h2⟩:=lV h
 rw [vS,bJ] at h1
 obtain⟨x,hx,e⟩:=h1
 exact⟨x,hx,e,h2⟩
structure MW (M:List MN) (D:Nat→Nat):Prop where
 par:∀i m p,lv M i=some m→m.par=some p→∃mp,lv M p=some mp∧i∈mp.kids∧D i=D p+1
 top:∀i m,lv M i=some m→m.par=none→D i=1
 kid:∀p mp k,lv M p=some mp→k∈mp.kids→∃mk,lv M k=some mk∧mk.par=some p
 nd:∀p mp,lv M p=some mp→mp.kids.Nodup
 low:∀i m,lv M i=some m→D i≤128
 few:M.length≤100000
end Go.Proofs.YtfelmdkeaacfeaaGreatDoor.W
end
