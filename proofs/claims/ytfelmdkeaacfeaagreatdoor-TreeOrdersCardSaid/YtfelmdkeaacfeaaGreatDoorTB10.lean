/- Texts joined: Name Low Elem AttrC. -/
import Derived.Test.YtfelmdkeaacfeaaGreatDoorTB1
import Derived.Test.YtfelmdkeaacfeaaGreatDoorTB9
import Derived.Laws.IdiomStrings
import Derived.Test.YtfelmdkeaacfeaaGreatDoorTB8
import Derived.WalkSpells
set_option maxRecDepth 100000
set_option maxHeartbeats 40000000
set_option linter.unusedVariables false
set_option linter.unusedSimpArgs false
section
namespace Go.Proofs.YtfelmdkeaacfeaaGreatDoor.W
open Go.RowKit
theorem NG (c:UInt8)(hc:NC c)(w:World):Calls Tryz.prog 108 #[.string ⟨#[c]⟩] w fun e w'=>e=.returned (.bool true)∧w'=w:=by
 rcases hc with rfl | rfl | rfl
 ·go_enter Tryz.func108,Tryz.ntmps108
  go_wp2_with fail
  go_loopw [0] (fun sv wr=>(sv=.string ⟨#[98]⟩∨sv=.string ⟨#[]⟩)∧wr=w) (fun sv _=>match sv with | .string b=>b.size | _=>0)
  case atStart=>exact⟨.inl rfl,rfl⟩
  case round =>
   obtain⟨rfl | rfl,rfl⟩:=hrel
   ·go_wp2_with fail
    exact⟨⟨.inr rfl,trivial⟩,by decide⟩
   ·go_wp2_with fail
    go_ret
    exact⟨rfl,rfl⟩
 ·go_enter Tryz.func108,Tryz.ntmps108
  go_wp2_with fail
  go_loopw [0] (fun sv wr=>(sv=.string ⟨#[105]⟩∨sv=.string ⟨#[]⟩)∧wr=w) (fun sv _=>match sv with | .string b=>b.size | _=>0)
  case atStart=>exact⟨.inl rfl,rfl⟩
  case round =>
   obtain⟨rfl | rfl,rfl⟩:=hrel
   ·go_wp2_with fail
    exact⟨⟨.inr rfl,trivial⟩,by decide⟩
   ·go_wp2_with fail
    go_ret
    exact⟨rfl,rfl⟩
 ·go_enter Tryz.func108,Tryz.ntmps108
  go_wp2_with fail
  go_loopw [0] (fun sv wr=>(sv=.string ⟨#[112]⟩∨sv=.string ⟨#[]⟩)∧wr=w) (fun sv _=>match sv with | .string b=>b.size | _=>0)
  case atStart=>exact⟨.inl rfl,rfl⟩
  case round =>
   obtain⟨rfl | rfl,rfl⟩:=hrel
   ·go_wp2_with fail
    exact⟨⟨.inr rfl,trivial⟩,by decide⟩
   ·go_wp2_with fail
    go_ret
    exact⟨rfl,rfl⟩
theorem EE (c:UInt8)(hc:NC c)(w:World):Calls Tryz.prog 124 #[.string ⟨#[c]⟩] w fun e w'=>e=.returned (.bool true)∧w'=w:=by
 have H:=NG c hc w
 go_enter Tryz.func124,Tryz.ntmps124
 go_wp2_with fail
 refine H.mono ?_
 rintro e w' ⟨rfl,rfl⟩
 go_wp2_with fail
 go_ret
 exact⟨rfl,rfl⟩
def oH (b:UInt8):UInt8:=if 65≤b.toNat∧b.toNat≤90 then UInt8.ofNat (b.toNat+32) else b
structure QZ (w:World) (l:List UInt8) (k:Nat) (wr:World):Prop where
 cell:∀j b,l[j]? = some b→wr.cell? ⟨w.heap.size,j,none⟩=some (.int .u8 (((if j < k then oH b else b).toNat:Nat):Int))
 free:∀j,j < l.length→wr.frozen? ⟨w.heap.size,j,none⟩=false
 below:Below w.heap.size w wr
 lt:w.heap.size < wr.heap.size
theorem QZ.start (w:World)(s:ByteArray)(cap:Nat)(t:TypeId):QZ w s.data.toList 0 (w.drew.alloc (.cells (bytesRow s cap) t ((bytesRow s cap).size,(bytesRow s cap).size+1))):=by
 have hn:(w.drew.alloc (.cells (bytesRow s cap) t ((bytesRow s cap).size,(bytesRow s cap).size+1))).heap[w.heap.size]? = some (.cells (bytesRow s cap) t ((bytesRow s cap).size,(bytesRow s cap).size+1)):=heap_alloc_new w.drew _
 refine⟨?_,?_,(ak _ _).drew.alloc (au _) _,by simp⟩
 ·intro j b hb
  have hj:j < s.data.size:=by have:=(ai.1 hb).1;simpa using this
  rw [ax (by omega)]
  unfold World.cell?
  simp only [hn]
  unfold bytesRow
  rw [Array.getElem?_append_left (by simpa using hj),Array.getElem?_map]
  have:s.data[j]? = some b:=by simpa using hb
  rw [this]
  rfl
 ·intro j hj
  have hj:j < s.data.size:=by simpa using hj
  unfold World.frozen?
  simp only [hn]
  have:(bytesRow s cap).size ≥ s.data.size:=by unfold bytesRow;simp
  simp;omega
theorem QZ.skip {w wr:World}{l:List UInt8}{k:Nat}(h:QZ w l k wr){b:UInt8}(hb:l[k]? = some b)(hn:oH b=b):QZ w l (k+1) wr:=by
 refine⟨fun j c hc=>?_,h.free,h.below,h.lt⟩
 have:=h.cell j c hc
 by_cases e:j=k
 ·subst e
  rw [hb] at hc
  cases hc
  rw [aC (by omega),hn]
  rw [ax (by omega)] at this
  exact this
 ·by_cases e2:j < k
  ·rw [aC (by omega)];rw [aC e2] at this;exact this
  ·rw [ax (by omega)];rw [ax e2] at this;exact this
theorem QZ.put {w wr:World}{l:List UInt8}{k:Nat}(h:QZ w l k wr){b:UInt8}(hb:l[k]? = some b){v:Int}(hv:v=((oH b).toNat:Nat)):QZ w l (k+1) (wr.setCell ⟨w.heap.size,k,none⟩ (.int .u8 v)):=by
 have hin:=h.cell k b hb
 refine⟨fun j c hc=>?_,fun j hj=>?_,h.below.setCell (p:=⟨w.heap.size,k,none⟩) (au _) _,by simpa using h.lt⟩
 ·have:=h.cell j c hc
  by_cases e:j=k
  ·subst e
   rw [hb] at hc
   cases hc
   rw [aC (by omega),← hv]
   exact World.cell?_setCell_same _ _ _ hin
  ·rw [World.cell?_setCell_other _ _ _ _ (by intro e2;simp only [yK] at e2;exact e e2.2.1.symm)]
   by_cases e2:j < k
   ·rw [aC (by omega)];rw [aC e2] at this;exact this
   ·rw [ax (by omega)];rw [ax e2] at this;exact this
 ·rw [World.frozen?_setCell];exact h.free j hj
theorem Ld (s:ByteArray)(hs:s.size≤9000000000000000000)(w:World) :
  Calls Tryz.prog 138 #[.string s,.int .u8 65,.int .u8 90,.int .i64 32] w fun e w'=>e=.returned (.string ⟨(s.data.toList.map oH).toArray⟩)∧Below w.heap.size w w':=by
 have hc:=run_bytes_of_string (P:=Tryz.prog) w 9 122 5 s Tryz.underlying9 Tryz.underlying122 Tryz.underlying5
 have hst:=QZ.start w s (grownCap w s.size 0 5) 5
 have hback:=fun(wr:World) (h:QZ w s.data.toList s.data.toList.length wr) (cap:Nat)=>Yk (P:=Tryz.prog) wr 122 9 5 ⟨w.heap.size,0,none⟩ cap (s.data.toList.map oH) Tryz.underlying122 Tryz.underlying5 Tryz.underlying9 (fun j hj=>by
  have hj':j < s.data.toList.length:=by simpa using hj
  have:=h.cell j s.data.toList[j] (ay hj')
  rw [aC hj'] at this
  rw [aP]
  simpa using this)
 have hsz:s.data.toList.length=s.size:=Array.length_toList
 simp only [bM,hsz] at hback
 have HBK:=ae hback
 have HST:=ae hst
 have HSZ:=ae hsz
 clear hback hst hsz
 generalize w.drew.alloc (.cells (bytesRow s (grownCap w s.size 0 5)) 5 ((bytesRow s (grownCap w s.size 0 5)).size,(bytesRow s (grownCap w s.size 0 5)).size+1))=W at *
 generalize grownCap w s.size 0 5=cap at *
 go_enter Tryz.func138,Tryz.ntmps138
 go_wp2_with fail
 go_loopw [16] (fun iv wr=>∃k:Nat,k≤s.size∧iv=.int .i64 (k:Int)∧QZ w s.data.toList k wr) (fun iv _=>s.size - (intOf iv).toNat)
 case atStart=>exact⟨0,aZ _,rfl,HST.out⟩
 case round =>
  clear hc
  obtain⟨k,hk,rfl,hR⟩:=hrel
  by_cases hlt:k < s.size
  ·have hkl:k < s.data.toList.length:=by rw [HSZ.out];exact hlt
   obtain⟨b,hb⟩:∃b,s.data.toList[k]? = some b:=⟨_,ay hkl⟩
   have c0:=hR.cell k b hb
   rw [ax (by omega)] at c0
   have f0:=hR.free k hkl
   have hb256:b.toNat < 256:=b.toNat_lt
   have HR:=ae hR
   have HBB:=ae hb
   clear hR hb hkl
   by_cases h1:65≤b.toNat
   ·have d1:decide ((65:Int)≤(b.toNat:Int))=true:=by simp;omega
    by_cases h2:b.toNat≤90
    ·have d2:decide ((b.toNat:Int)≤90)=true:=by simp;omega
     have hv:(b.toNat:Int)+32=((oH b).toNat:Nat):=by unfold oH;rw [aC ⟨h1,h2⟩];simp;omega
     have HV:=ae hv
     clear hv
     go_wp2_with fail
     exact⟨⟨k+1,by omega,by go_num,HR.out.put HBB.out HV.out⟩,by simp [intOf];omega⟩
    ·have d2:decide ((b.toNat:Int)≤90)=false:=by simp;omega
     have HV:=ae (show oH b=b by unfold oH;rw [ax (by omega)])
     go_wp2_with fail
     exact⟨⟨k+1,by omega,by go_num,HR.out.skip HBB.out HV.out⟩,by simp [intOf];omega⟩
   ·have d1:decide ((65:Int)≤(b.toNat:Int))=false:=by simp;omega
    have HV:=ae (show oH b=b by unfold oH;rw [ax (by omega)])
    go_wp2_with fail
    exact⟨⟨k+1,by omega,by go_num,HR.out.skip HBB.out HV.out⟩,by simp [intOf];omega⟩
  ·obtain rfl:k=s.size:=by omega
   have hbk:=HBK.out wr hR cap
   have HR:=ae hR
   clear hR
   go_wp2_with fail
   go_ret
   exact⟨rfl,HR.out.below⟩
theorem BA (s:ByteArray)(hs:s.size≤9000000000000000000)(w:World) :
  Calls Tryz.prog 125 #[.string s] w fun e w'=>e=.returned (.string ⟨(s.data.toList.map oH).toArray⟩)∧Below w.heap.size w w':=by
 have H:=ae (Ld s hs w)
 go_enter Tryz.func125,Tryz.ntmps125
 go_wp2_with fail
 refine H.out.mono ?_
 rintro e w' ⟨rfl,hb⟩
 go_wp2_with fail
 go_ret
 exact⟨rfl,hb⟩
theorem ascii_of {l:List UInt8}(h:l.all (fun b=>decide (b.toNat < 128))=true):∀(j:Nat) (b:UInt8),l[j]? = some b→b.toNat < 128:=fun j b hj=>by
 have:=dX.1 h b (ah hj)
 simpa using this
theorem AP (c:UInt8)(hc:NC c)(w:World):Calls Tryz.prog 105 #[.string ⟨#[c]⟩] w fun e w'=>e=.returned (.bool true)∧Below w.heap.size w w':=by
 have HV:=ae (EE c hc w)
 have HL:=ae (BA ⟨#[c]⟩ (by show 1≤_;omega) w)
 have hl:(List.map oH (⟨#[c]⟩:ByteArray).data.toList).toArray=#[c]:=by rcases hc with rfl | rfl | rfl <;> rfl
 rw [hl] at HL
 clear hl hc
 go_enter Tryz.func105,Tryz.ntmps105
 go_wp2_with fail
 refine HV.out.mono ?_
 rintro e w' ⟨rfl,hw⟩
 subst hw
 go_wp2_with fail
 refine HL.out.mono ?_
 rintro e w2 ⟨rfl,hb⟩
 go_wp2_with fail
 go_ret
 exact⟨rfl,hb⟩
theorem Ej (w:World):Calls Tryz.prog 86 #[.string ⟨#[98]⟩] w fun e w'=>e=.returned (.bool true)∧Below w.heap.size w w':=by
 have HV:=ae (AP 98 (by unfold NC;decide) w)
 have HC:=ae (fun w=>Tryz.strings_ContainsAny_laid ⟨#[98]⟩ ⟨#[9,10,12,13,32,47,62]⟩ w (by decide) (by decide) (ascii_of (by decide)) (ascii_of (by decide)))
 have hl:Lib.containsAny (⟨#[98]⟩:ByteArray).data.toList (⟨#[9,10,12,13,32,47,62]⟩:ByteArray).data.toList=false:=by rfl
 simp only [hl] at HC
 clear hl
 go_enter Tryz.func86,Tryz.ntmps86
 go_wp2_with fail
 refine HV.out.mono ?_
 rintro e w1 ⟨rfl,hb1⟩
 go_wp2_with fail
 refine(HC.out _).mono ?_
 rintro e w2 ⟨rfl,hb2⟩
 go_wp2_with fail
 go_ret
 exact⟨rfl,aV hb1 hb2⟩
theorem Cb (w:World):Calls Tryz.prog 86 #[.string ⟨#[105]⟩] w fun e w'=>e=.returned (.bool true)∧Below w.heap.size w w':=by
 have HV:=ae (AP 105 (by unfold NC;decide) w)
 have HC:=ae (fun w=>Tryz.strings_ContainsAny_laid ⟨#[105]⟩ ⟨#[9,10,12,13,32,47,62]⟩ w (by decide) (by decide) (ascii_of (by decide)) (ascii_of (by decide)))
 have hl:Lib.containsAny (⟨#[105]⟩:ByteArray).data.toList (⟨#[9,10,12,13,32,47,62]⟩:ByteArray).data.toList=false:=by rfl
 simp only [hl] at HC
 clear hl
 go_enter Tryz.func86,Tryz.ntmps86
 go_wp2_with fail
 refine HV.out.mono ?_
 rintro e w1 ⟨rfl,hb1⟩
 go_wp2_with fail
 refine(HC.out _).mono ?_
 rintro e w2 ⟨rfl,hb2⟩
 go_wp2_with fail
 go_ret
 exact⟨rfl,aV hb1 hb2⟩
theorem BZ (w:World):Calls Tryz.prog 86 #[.string ⟨#[112]⟩] w fun e w'=>e=.returned (.bool true)∧Below w.heap.size w w':=by
 have HV:=ae (AP 112 (by unfold NC;decide) w)
 have HC:=ae (fun w=>Tryz.strings_ContainsAny_laid ⟨#[112]⟩ ⟨#[9,10,12,13,32,47,62]⟩ w (by decide) (by decide) (ascii_of (by decide)) (ascii_of (by decide)))
 have hl:Lib.containsAny (⟨#[112]⟩:ByteArray).data.toList (⟨#[9,10,12,13,32,47,62]⟩:ByteArray).data.toList=false:=by rfl
 simp only [hl] at HC
 clear hl
 go_enter Tryz.func86,Tryz.ntmps86
 go_wp2_with fail
 refine HV.out.mono ?_
 rintro e w1 ⟨rfl,hb1⟩
 go_wp2_with fail
 refine(HC.out _).mono ?_
 rintro e w2 ⟨rfl,hb2⟩
 go_wp2_with fail
 go_ret
 exact⟨rfl,aV hb1 hb2⟩
theorem BX (c:UInt8)(hc:NC c)(w:World):Calls Tryz.prog 86 #[.string ⟨#[c]⟩] w fun e w'=>e=.returned (.bool true)∧Below w.heap.size w w':=by
 rcases hc with rfl | rfl | rfl
 ·exact Ej w
 ·exact Cb w
 ·exact BZ w
theorem OI (w:World):Calls Tryz.prog 87 #[.slice none 0 0] w fun e w'=>e=.returned (.bool true)∧Below w.heap.size w w':=by
 have hmm:=@run_makeMap Tryz.prog
 go_enter Tryz.func87,Tryz.ntmps87
 go_wp2_with fail
 go_loopw [9] (fun iv wr=>iv=.int .i64 0∧Below w.heap.size w wr) (fun _ _=>0)
 case atStart=>exact⟨rfl,(ak _ _).alloc (au _) _⟩
 case round =>
  obtain⟨rfl,hB⟩:=hrel
  go_wp2_with fail
  go_ret
  exact⟨rfl,hB⟩
theorem lW (s:ByteArray)(hs:s.size≤9000000000000000000)(w:World):Calls Tryz.prog 64 #[.string s] w fun e w'=>e=.returned (.bool (decide (1048576 < s.size)))∧w'=w:=by
 by_cases h:1048576 < s.size
 ·have d1:decide ((1048576:Int) < (s.size:Int))=true:=by simp;omega
  go_enter Tryz.func64,Tryz.ntmps64
  go_wp2_with fail
  rw [dZ h]
  go_ret
  exact⟨rfl,rfl⟩
 ·have d1:decide ((1048576:Int) < (s.size:Int))=false:=by simp;omega
  go_enter Tryz.func64,Tryz.ntmps64
  go_wp2_with fail
  rw [eP h]
  go_ret
  exact⟨rfl,rfl⟩
theorem EP (f:Value)(w:World):Calls Tryz.prog 103 #[.slice none 0 0,f] w fun e w'=>e=.returned (.int .i64 (-1))∧w'=w:=by
 go_enter Tryz.func103,Tryz.ntmps103
 go_wp2_with fail
 go_loopw [8] (fun iv wr=>iv=.int .i64 0∧wr=w) (fun _ _=>0)
 case atStart=>exact⟨rfl,rfl⟩
 case round =>
  obtain⟨rfl,rfl⟩:=hrel
  go_wp2_with fail
  go_ret
  exact⟨rfl,rfl⟩
theorem pG (f:Value)(w:World):Calls Tryz.prog 88 #[.slice none 0 0,f] w fun e w'=>e=.returned (.bool false)∧w'=w:=by
 have H:=ae (EP f w)
 go_enter Tryz.func88,Tryz.ntmps88
 go_wp2_with fail
 refine H.out.mono ?_
 rintro e w' ⟨rfl,hw⟩
 subst hw
 go_wp2_with fail
 go_ret
 exact⟨rfl,rfl⟩
abbrev jR:=List UInt8×List UInt8
def OX (p:jR):List Value:=[dA p.1,dA p.2]
def cu (l:List jR):List Value:=l.flatMap OX
theorem lJ (l:List jR):(cu l).length=l.length*2:=by
 induction l with
 | nil=>rfl
 | cons x l ih=>rw [cu,eG,aA,List.length_cons];unfold cu at ih;rw [ih];show 2+_=_;omega
theorem kz (l:List jR)(i:Nat)(p:jR)(h:l[i]? = some p):(cu l)[2*i]? = some (dA p.1)∧(cu l)[2*i+1]? = some (dA p.2):=by
 induction l generalizing i with
 | nil=>simp at h
 | cons y l ih =>
  rw [cu,eG]
  cases i with
  | zero=>simp at h;subst h;exact⟨rfl,rfl⟩
  | succ i =>
   obtain⟨h1,h2⟩:=ih i (by simpa using h)
   constructor
   ·rw [bZ (by show 2≤_;omega)]
    show(cu l)[2*(i+1) - 2]? = _
    rw [show 2*(i+1) - 2=2*i by omega];exact h1
   ·rw [bZ (by show 2≤_;omega)]
    show(cu l)[2*(i+1)+1 - 2]? = _
    rw [show 2*(i+1)+1 - 2=2*i+1 by omega];exact h2
theorem sU (l:List jR):∀u∈cu l,u.oneCell'=true:=by
 intro u hu
 unfold cu at hu
 rw [bT] at hu
 obtain⟨p,_,hp⟩:=hu
 simp only [OX,bn,iH,rP] at hp
 rcases hp with rfl | rfl <;> rfl
theorem yE (l:List jR)(p:jR):cu (l ++ [p])=cu l ++ OX p:=by unfold cu;simp
theorem Es {B:Nat}{w:World}{g n cap:Nat}{l:List jR}(h:jA B w (.slice (some ⟨g,0,none⟩) n cap) l):∀j u,(cu l)[j]? = some u→w.cell? ((⟨g,0,none⟩:Addr).add j)=some u:=by
 intro j u hu
 have hj:j < l.length*2:=by rw [← lJ];exact(ai.1 hu).1
 obtain⟨a,c,e,h'⟩:=h
 rcases h' with rfl | ⟨g',cur,rfl,_,hh,hc⟩
 ·simp at hj
 ·simp only [bD,mY,yK] at e
  obtain⟨⟨rfl,_⟩,_,_⟩:=e
  rw [aP,iQ hh,aJ]
  obtain⟨p,hp⟩:∃p,l[j / 2]? = some p:=⟨_,ay (by omega)⟩
  have h1:=kz l (j / 2) p hp
  have h2:=hc (j / 2) p hp
  rcases Nat.mod_two_eq_zero_or_one j with e | e
  ·rw [show 2*(j / 2)=j by omega] at h1 h2
   rw [h1.1] at hu
   rw [h2.1,hu]
  ·rw [show 2*(j / 2)+1=j by omega] at h1 h2
   rw [h1.2] at hu
   rw [h2.2,hu]
theorem lY {B B':Nat}{w:World}{v:Value}{l:List jR}(h:w.ownsRow B' 91 2 v l.length (cu l))(hB:B≤B'):jA B w v l:=by
 rcases h.2 with ⟨rfl,e⟩ | ⟨g,cap,cur,rfl,hg,hh,hc1,hc2,hc3,ht⟩
 ·exact⟨none,0,by rw [e],.inl (nO.1 e)⟩
 ·refine⟨_,_,rfl,.inr ⟨g,cur,rfl,by omega,hh,fun i p hp=>?_⟩⟩
  obtain⟨h1,h2⟩:=kz l i p hp
  have hi:=(ai.1 hp).1
  have hget:∀j,j < l.length*2→cur[j]? = (cu l)[j]?:=fun j hj=>by
   rw [← ht,eX,aC hj,Array.getElem?_toList]
  exact⟨by rw [hget _ (by omega)];exact h1,by rw [hget _ (by omega)];exact h2⟩
theorem Qi:(Tryz.prog.info? 91).map (fun i=>(i.zero,i.size,i.bytes))=some (some (.agg #[.string ⟨#[]⟩,.string ⟨#[]⟩]),2,32):=by kernel_rfl
theorem uI {B:Nat}{w:World}{v:Value}{l:List jR}(h:jA B w v l)(hl:l.length≤1000) :
  Calls Tryz.prog 61 #[v] w fun e w'=>∃v',e=.returned v'∧w'.ownsRow w.heap.size 91 2 v' l.length (cu l)∧Below w.heap.size w w':=by
 obtain⟨i0,hi0,hz0,hz1,hz2⟩:=WY Qi
 have hq:=fun w a n c n' c'=>Lib.run_eql_slice_nil (P:=Tryz.prog) w 60 91 a n c n' c' Tryz.underlying60
 have h0:=h
 obtain⟨a,c,rfl,h'⟩:=h
 cases a with
 | none =>
  have hx:l=[]:=by
   rcases h' with h' | ⟨g',cur,e,_⟩
   ·exact h'
   ·cases e
  subst hx
  clear h0 h'
  go_enter Tryz.func61,Tryz.ntmps61
  go_wp2_with fail
  go_ret
  exact⟨_,rfl,aG _ _ _ _,ak _ _⟩
 | some a =>
  have hA:=(All.start w).KU w.heap.size rfl 91 2 0 [] rfl (by omega)
  have hcell:∀j u,(cu l)[j]? = some u→(w.alloc (.cells ([]:List Value).toArray 91)).cell? (a.add j)=some u:=fun j u hu=>by
   rcases h' with rfl | ⟨g',cur,e,_⟩
   ·simp [cu] at hu
   ·cases e
    exact aU ((ak _ w).alloc (au _) _) (Es h0 j u hu)
  have HC:=ae hcell
  have HO:=ae (show(w.alloc (.cells ([]:List Value).toArray 91)).ownsRow w.heap.size 91 2 (.slice (some ⟨w.heap.size,0,none⟩) 0 0) 0 [] from by
   have:Own _ _ _ _ _ _:=hA.head
   obtain⟨h1,h2⟩:=this
   refine⟨h1,?_⟩
   rcases h2 with ⟨e,_⟩ | ⟨g',cap,cur,e,_,rest⟩
   ·cases e
   ·cases e;exact .inr ⟨w.heap.size,_,cur,rfl,au _,rest⟩)
  have H1:=ae (sU l)
  have HL:=ae (lJ l)
  generalize cu l=ys at *
  clear h0 h' hA hcell
  go_enter Tryz.func61,Tryz.ntmps61
  go_wp2_with (at_builtin;refine qo _ rfl _ _ 60 rfl w.heap.size 91 i0 _ 2 32 Tryz.underlying60 hi0 hz0 hz1 hz2 rfl (by decide) _ 0 _ rfl HO.out _ l.length _ ys rfl HL.out HC.out H1.out ?c1 ?c2 ?c3 ?_)
  case c1=>unfold maxLen;omega
  case c2=>omega
  case c3=>simp
  intro v' w5 hown5 hgr5 _
  have HW:=ae hown5
  have HB:=ae (show Below w.heap.size w w5 from((ak _ w).alloc (au _) _).grown hgr5 (by simp) (fun k hk=>by cases hk;exact au _))
  clear hown5 hgr5
  go_wp2_with fail
  go_ret
  exact⟨_,rfl,by simpa using HW.out,HB.out⟩
end Go.Proofs.YtfelmdkeaacfeaaGreatDoor.W
end
