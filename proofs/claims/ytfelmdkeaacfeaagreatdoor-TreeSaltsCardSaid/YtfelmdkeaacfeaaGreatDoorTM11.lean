/- Texts joined: Elem AttrC SetA Txt. -/
import Derived.Test.YtfelmdkeaacfeaaGreatDoorTM10
import Derived.Test.YtfelmdkeaacfeaaGreatDoorTM8
import Derived.WalkSpells
import Derived.Test.YtfelmdkeaacfeaaGreatDoorTM6
import Derived.Laws.Cover1
set_option maxRecDepth 100000
set_option maxHeartbeats 40000000
set_option linter.unusedVariables false
set_option linter.unusedSimpArgs false
section
namespace Go.Proofs.YtfelmdkeaacfeaaGreatDoor.W
open Go.RowKit
theorem ascii_of {l:List UInt8}(h:l.all (fun b=>decide (b.toNat < 128))=true):∀(j:Nat) (b:UInt8),l[j]? = some b→b.toNat < 128:=fun j b hj=>by
 have:=List.all_eq_true.1 h b (List.mem_of_getElem? hj)
 simpa using this
theorem lower_one (c:UInt8)(hc:Ltr c)(w:World):Calls Tryz.prog 105 #[.string ⟨#[c]⟩] w fun e w'=>e=.returned (.bool true)∧Below w.heap.size w w':=by
 have HV:=Lib.hid (textValid_one c hc w)
 have HL:=Lib.hid (lower_bytes ⟨#[c]⟩ (by show 1≤_;omega) w)
 have hl:(List.map lowB (⟨#[c]⟩:ByteArray).data.toList).toArray=#[c]:=by rcases hc with rfl | rfl | rfl <;> rfl
 rw [hl] at HL
 clear hl hc
 go_enter Tryz.func105,Tryz.ntmps105
 go_wp2_with fail
 refine HV.out.mono ?_
 rintro e w' ⟨rfl,hw⟩
 subst hw
 go_wp2_with fail
 refine HL.out.mono ?_
 rintro e w2 ⟨rfl,hb⟩
 go_wp2_with fail
 go_ret
 exact⟨rfl,hb⟩
theorem elementName_98 (w:World):Calls Tryz.prog 86 #[.string ⟨#[98]⟩] w fun e w'=>e=.returned (.bool true)∧Below w.heap.size w w':=by
 have HV:=Lib.hid (lower_one 98 (by unfold Ltr;decide) w)
 have HC:=Lib.hid (fun w=>Tryz.strings_ContainsAny_laid ⟨#[98]⟩ ⟨#[9,10,12,13,32,47,62]⟩ w (by decide) (by decide) (ascii_of (by decide)) (ascii_of (by decide)))
 have hl:Lib.containsAny (⟨#[98]⟩:ByteArray).data.toList (⟨#[9,10,12,13,32,47,62]⟩:ByteArray).data.toList=false:=by rfl
 simp only [hl] at HC
 clear hl
 go_enter Tryz.func86,Tryz.ntmps86
 go_wp2_with fail
 refine HV.out.mono ?_
 rintro e w1 ⟨rfl,hb1⟩
 go_wp2_with fail
 refine(HC.out _).mono ?_
 rintro e w2 ⟨rfl,hb2⟩
 go_wp2_with fail
 go_ret
 exact⟨rfl,bthen hb1 hb2⟩
theorem elementName_105 (w:World):Calls Tryz.prog 86 #[.string ⟨#[105]⟩] w fun e w'=>e=.returned (.bool true)∧Below w.heap.size w w':=by
 have HV:=Lib.hid (lower_one 105 (by unfold Ltr;decide) w)
 have HC:=Lib.hid (fun w=>Tryz.strings_ContainsAny_laid ⟨#[105]⟩ ⟨#[9,10,12,13,32,47,62]⟩ w (by decide) (by decide) (ascii_of (by decide)) (ascii_of (by decide)))
 have hl:Lib.containsAny (⟨#[105]⟩:ByteArray).data.toList (⟨#[9,10,12,13,32,47,62]⟩:ByteArray).data.toList=false:=by rfl
 simp only [hl] at HC
 clear hl
 go_enter Tryz.func86,Tryz.ntmps86
 go_wp2_with fail
 refine HV.out.mono ?_
 rintro e w1 ⟨rfl,hb1⟩
 go_wp2_with fail
 refine(HC.out _).mono ?_
 rintro e w2 ⟨rfl,hb2⟩
 go_wp2_with fail
 go_ret
 exact⟨rfl,bthen hb1 hb2⟩
theorem elementName_112 (w:World):Calls Tryz.prog 86 #[.string ⟨#[112]⟩] w fun e w'=>e=.returned (.bool true)∧Below w.heap.size w w':=by
 have HV:=Lib.hid (lower_one 112 (by unfold Ltr;decide) w)
 have HC:=Lib.hid (fun w=>Tryz.strings_ContainsAny_laid ⟨#[112]⟩ ⟨#[9,10,12,13,32,47,62]⟩ w (by decide) (by decide) (ascii_of (by decide)) (ascii_of (by decide)))
 have hl:Lib.containsAny (⟨#[112]⟩:ByteArray).data.toList (⟨#[9,10,12,13,32,47,62]⟩:ByteArray).data.toList=false:=by rfl
 simp only [hl] at HC
 clear hl
 go_enter Tryz.func86,Tryz.ntmps86
 go_wp2_with fail
 refine HV.out.mono ?_
 rintro e w1 ⟨rfl,hb1⟩
 go_wp2_with fail
 refine(HC.out _).mono ?_
 rintro e w2 ⟨rfl,hb2⟩
 go_wp2_with fail
 go_ret
 exact⟨rfl,bthen hb1 hb2⟩
theorem elementName_one (c:UInt8)(hc:Ltr c)(w:World):Calls Tryz.prog 86 #[.string ⟨#[c]⟩] w fun e w'=>e=.returned (.bool true)∧Below w.heap.size w w':=by
 rcases hc with rfl | rfl | rfl
 ·exact elementName_98 w
 ·exact elementName_105 w
 ·exact elementName_112 w
theorem attrs_nil (w:World):Calls Tryz.prog 87 #[.slice none 0 0] w fun e w'=>e=.returned (.bool true)∧Below w.heap.size w w':=by
 have hmm:=@run_makeMap Tryz.prog
 go_enter Tryz.func87,Tryz.ntmps87
 go_wp2_with fail
 go_loopw [9] (fun iv wr=>iv=.int .i64 0∧Below w.heap.size w wr) (fun _ _=>0)
 case atStart=>exact⟨rfl,(Below.refl _ _).alloc (Nat.le_refl _) _⟩
 case round =>
  obtain⟨rfl,hB⟩:=hrel
  go_wp2_with fail
  go_ret
  exact⟨rfl,hB⟩
theorem long_any (s:ByteArray)(hs:s.size≤9000000000000000000)(w:World):Calls Tryz.prog 64 #[.string s] w fun e w'=>e=.returned (.bool (decide (1048576 < s.size)))∧w'=w:=by
 by_cases h:1048576 < s.size
 ·have d1:decide ((1048576:Int) < (s.size:Int))=true:=by simp;omega
  go_enter Tryz.func64,Tryz.ntmps64
  go_wp2_with fail
  rw [decide_eq_true h]
  go_ret
  exact⟨rfl,rfl⟩
 ·have d1:decide ((1048576:Int) < (s.size:Int))=false:=by simp;omega
  go_enter Tryz.func64,Tryz.ntmps64
  go_wp2_with fail
  rw [decide_eq_false h]
  go_ret
  exact⟨rfl,rfl⟩
theorem indexFunc_nil (f:Value)(w:World):Calls Tryz.prog 103 #[.slice none 0 0,f] w fun e w'=>e=.returned (.int .i64 (-1))∧w'=w:=by
 go_enter Tryz.func103,Tryz.ntmps103
 go_wp2_with fail
 go_loopw [8] (fun iv wr=>iv=.int .i64 0∧wr=w) (fun _ _=>0)
 case atStart=>exact⟨rfl,rfl⟩
 case round =>
  obtain⟨rfl,rfl⟩:=hrel
  go_wp2_with fail
  go_ret
  exact⟨rfl,rfl⟩
theorem containsFunc_nil (f:Value)(w:World):Calls Tryz.prog 88 #[.slice none 0 0,f] w fun e w'=>e=.returned (.bool false)∧w'=w:=by
 have H:=Lib.hid (indexFunc_nil f w)
 go_enter Tryz.func88,Tryz.ntmps88
 go_wp2_with fail
 refine H.out.mono ?_
 rintro e w' ⟨rfl,hw⟩
 subst hw
 go_wp2_with fail
 go_ret
 exact⟨rfl,rfl⟩
abbrev Atr:=List UInt8×List UInt8
def atC (p:Atr):List Value:=[strV p.1,strV p.2]
def attrC (l:List Atr):List Value:=l.flatMap atC
theorem attrC_len (l:List Atr):(attrC l).length=l.length*2:=by
 induction l with
 | nil=>rfl
 | cons x l ih=>rw [attrC,List.flatMap_cons,List.length_append,List.length_cons];unfold attrC at ih;rw [ih];show 2+_=_;omega
theorem attrC_at (l:List Atr)(i:Nat)(p:Atr)(h:l[i]? = some p):(attrC l)[2*i]? = some (strV p.1)∧(attrC l)[2*i+1]? = some (strV p.2):=by
 induction l generalizing i with
 | nil=>simp at h
 | cons y l ih =>
  rw [attrC,List.flatMap_cons]
  cases i with
  | zero=>simp at h;subst h;exact⟨rfl,rfl⟩
  | succ i =>
   obtain⟨h1,h2⟩:=ih i (by simpa using h)
   constructor
   ·rw [List.getElem?_append_right (by show 2≤_;omega)]
    show(attrC l)[2*(i+1) - 2]? = _
    rw [show 2*(i+1) - 2=2*i by omega];exact h1
   ·rw [List.getElem?_append_right (by show 2≤_;omega)]
    show(attrC l)[2*(i+1)+1 - 2]? = _
    rw [show 2*(i+1)+1 - 2=2*i+1 by omega];exact h2
theorem attrC_one (l:List Atr):∀u∈attrC l,u.oneCell'=true:=by
 intro u hu
 unfold attrC at hu
 rw [List.mem_flatMap] at hu
 obtain⟨p,_,hp⟩:=hu
 simp only [atC,List.mem_cons,List.not_mem_nil,or_false] at hp
 rcases hp with rfl | rfl <;> rfl
theorem attrC_snoc (l:List Atr)(p:Atr):attrC (l ++ [p])=attrC l ++ atC p:=by unfold attrC;simp
theorem attr_cells {B:Nat}{w:World}{g n cap:Nat}{l:List Atr}(h:AttrAt B w (.slice (some ⟨g,0,none⟩) n cap) l):∀j u,(attrC l)[j]? = some u→w.cell? ((⟨g,0,none⟩:Addr).add j)=some u:=by
 intro j u hu
 have hj:j < l.length*2:=by rw [← attrC_len];exact(List.getElem?_eq_some_iff.1 hu).1
 obtain⟨a,c,e,h'⟩:=h
 rcases h' with rfl | ⟨g',cur,rfl,_,hh,hc⟩
 ·simp at hj
 ·simp only [Value.slice.injEq,Option.some.injEq,Addr.mk.injEq] at e
  obtain⟨⟨rfl,_⟩,_,_⟩:=e
  rw [Go.WideShapes.add_plain,Lib.cell_of_heap hh,Nat.zero_add]
  obtain⟨p,hp⟩:∃p,l[j / 2]? = some p:=⟨_,List.getElem?_eq_getElem (by omega)⟩
  have h1:=attrC_at l (j / 2) p hp
  have h2:=hc (j / 2) p hp
  rcases Nat.mod_two_eq_zero_or_one j with e | e
  ·rw [show 2*(j / 2)=j by omega] at h1 h2
   rw [h1.1] at hu
   rw [h2.1,hu]
  ·rw [show 2*(j / 2)+1=j by omega] at h1 h2
   rw [h1.2] at hu
   rw [h2.2,hu]
theorem attr_of_own {B B':Nat}{w:World}{v:Value}{l:List Atr}(h:w.ownsRow B' 91 2 v l.length (attrC l))(hB:B≤B'):AttrAt B w v l:=by
 rcases h.2 with ⟨rfl,e⟩ | ⟨g,cap,cur,rfl,hg,hh,hc1,hc2,hc3,ht⟩
 ·exact⟨none,0,by rw [e],.inl (List.length_eq_zero_iff.1 e)⟩
 ·refine⟨_,_,rfl,.inr ⟨g,cur,rfl,by omega,hh,fun i p hp=>?_⟩⟩
  obtain⟨h1,h2⟩:=attrC_at l i p hp
  have hi:=(List.getElem?_eq_some_iff.1 hp).1
  have hget:∀j,j < l.length*2→cur[j]? = (attrC l)[j]?:=fun j hj=>by
   rw [← ht,List.getElem?_take,if_pos hj,Array.getElem?_toList]
  exact⟨by rw [hget _ (by omega)];exact h1,by rw [hget _ (by omega)];exact h2⟩
theorem infoA:(Tryz.prog.info? 91).map (fun i=>(i.zero,i.size,i.bytes))=some (some (.agg #[.string ⟨#[]⟩,.string ⟨#[]⟩]),2,32):=by kernel_rfl
theorem clone_attr {B:Nat}{w:World}{v:Value}{l:List Atr}(h:AttrAt B w v l)(hl:l.length≤1000) :
  Calls Tryz.prog 61 #[v] w fun e w'=>∃v',e=.returned v'∧w'.ownsRow w.heap.size 91 2 v' l.length (attrC l)∧Below w.heap.size w w':=by
 obtain⟨i0,hi0,hz0,hz1,hz2⟩:=info_parts infoA
 have hq:=fun w a n c n' c'=>Lib.run_eql_slice_nil (P:=Tryz.prog) w 60 91 a n c n' c' Tryz.underlying60
 have h0:=h
 obtain⟨a,c,rfl,h'⟩:=h
 cases a with
 | none =>
  have hx:l=[]:=by
   rcases h' with h' | ⟨g',cur,e,_⟩
   ·exact h'
   ·cases e
  subst hx
  clear h0 h'
  go_enter Tryz.func61,Tryz.ntmps61
  go_wp2_with fail
  go_ret
  exact⟨_,rfl,World.ownsRow_nil _ _ _ _,Below.refl _ _⟩
 | some a =>
  have hA:=(All.start w).newSlA w.heap.size rfl 91 2 0 [] rfl (by omega)
  have hcell:∀j u,(attrC l)[j]? = some u→(w.alloc (.cells ([]:List Value).toArray 91)).cell? (a.add j)=some u:=fun j u hu=>by
   rcases h' with rfl | ⟨g',cur,e,_⟩
   ·simp [attrC] at hu
   ·cases e
    exact cell_keep ((Below.refl _ w).alloc (Nat.le_refl _) _) (attr_cells h0 j u hu)
  have HC:=Lib.hid hcell
  have HO:=Lib.hid (show(w.alloc (.cells ([]:List Value).toArray 91)).ownsRow w.heap.size 91 2 (.slice (some ⟨w.heap.size,0,none⟩) 0 0) 0 [] from by
   have:Own _ _ _ _ _ _:=hA.head
   obtain⟨h1,h2⟩:=this
   refine⟨h1,?_⟩
   rcases h2 with ⟨e,_⟩ | ⟨g',cap,cur,e,_,rest⟩
   ·cases e
   ·cases e;exact .inr ⟨w.heap.size,_,cur,rfl,Nat.le_refl _,rest⟩)
  have H1:=Lib.hid (attrC_one l)
  have HL:=Lib.hid (attrC_len l)
  generalize attrC l=ys at *
  clear h0 h' hA hcell
  go_enter Tryz.func61,Tryz.ntmps61
  go_wp2_with (at_builtin;refine wpList_append_own _ rfl _ _ 60 rfl w.heap.size 91 i0 _ 2 32 Tryz.underlying60 hi0 hz0 hz1 hz2 rfl (by decide) _ 0 _ rfl HO.out _ l.length _ ys rfl HL.out HC.out H1.out ?c1 ?c2 ?c3 ?_)
  case c1=>unfold maxLen;omega
  case c2=>omega
  case c3=>simp
  intro v' w5 hown5 hgr5 _
  have HW:=Lib.hid hown5
  have HB:=Lib.hid (show Below w.heap.size w w5 from((Below.refl _ w).alloc (Nat.le_refl _) _).grown hgr5 (by simp) (fun k hk=>by cases hk;exact Nat.le_refl _))
  clear hown5 hgr5
  go_wp2_with fail
  go_ret
  exact⟨_,rfl,by simpa using HW.out,HB.out⟩
theorem TAt.setAv {B R g cap:Nat}{S:Tr}{fv:Value}{w w':World}(h:TAt B R S (.slice (some ⟨g,0,none⟩) S.slots.length cap) fv w){i:Nat}{n:Nd}(hi:S.at i=some n)(v:Value)(l:List Atr)
  (k:Chg (fun k=>k=g) w w')(hs:w'.ownsRow B 159 10 (.slice (some ⟨g,0,none⟩) S.slots.length cap) S.slots.length ((rowC S.slots).set (i*10+1+2) v))(ha:AttrAt B w' v l) :
  TAt B R (S.put i { n with av:=v,attrs:=l }) (.slice (some ⟨g,0,none⟩) (S.put i { n with av:=v,attrs:=l }).slots.length cap) fv w':=by
 have hlt:=at_lt hi
 have hlen:(S.put i { n with av:=v,attrs:=l }).slots.length=S.slots.length:=by unfold Tr.put;simp
 obtain⟨cur,hg⟩:∃cur,w.heap[g]? = some (.cells cur 159 (0,0)):=by
  rcases h.slots.2 with ⟨e,_⟩ | ⟨g',cap',cur,e,_,hh,_⟩
  ·cases e
  ·cases e;exact⟨cur,hh⟩
 have other:∀{k:Nat}{cs:Array Value}{t:TypeId},w.heap[k]? = some (.cells cs t (0,0))→159≠t→w'.heap[k]? = w.heap[k]?:=fun hk ht=>k.block _ (lt_of_block hk) (fun e=>blk_ne hg hk ht e.symm)
 rw [hlen]
 refine⟨?_,?_,?_,?_,h.base,by rw [hlen];exact h.few⟩
 ·have:=h.blk.kept (other h.blk (by decide))
  rw [live_put hi]
  exact this
 ·rw [hlen]
  have e:rowC (S.put i { n with av:=v,attrs:=l }).slots=(rowC S.slots).set (i*10+1+2) v:=by
   have:=rowC_set S.slots i (some { n with av:=v,attrs:=l }) hlt (1+2) v (by omega) (some n) (at_slot hi) rfl
   rw [← Nat.add_assoc] at this
   exact this
  rw [e]
  exact hs
 ·obtain⟨h1,h2⟩:=h.free
  refine⟨h1,h2.imp id fun⟨g',cap',cur',e1,e2,e3,rest⟩=>⟨g',cap',cur',e1,e2,(other e3 (by decide)).trans e3,rest⟩⟩
 ·intro k m hk
  have hcase:(k=i∧m={ n with av:=v,attrs:=l })∨S.slots[k]? = some (some m):=by
   unfold Tr.put at hk
   simp only [] at hk
   by_cases e:i=k
   ·subst e
    rw [List.getElem?_set_self hlt] at hk
    left;exact⟨rfl,by simpa using hk.symm⟩
   ·rw [List.getElem?_set_ne e] at hk
    right;exact hk
  rcases hcase with ⟨rfl,rfl⟩ | hk
  ·exact ha
  ·obtain⟨a,cp,e,hx⟩:=h.attrs k m hk
   exact⟨a,cp,e,hx.imp id fun⟨g',cur',e1,e2,e3,e4⟩=>⟨g',cur',e1,e2,(other e3 (by decide)).trans e3,e4⟩⟩
theorem nmOf_cases (l:List Atr)(x:List UInt8):nmOf l x=-1∨∃(k:Nat) (y:Atr),nmOf l x=(k:Int)∧l[k]? = some y:=by
 unfold nmOf
 cases e:l.findIdx? (fun y=>y.1 == x) with
 | none=>exact .inl rfl
 | some k =>
  rw [List.findIdx?_eq_some_iff_getElem] at e
  exact .inr ⟨k,_,rfl,List.getElem?_eq_getElem e.1⟩
theorem attrC_set (l:List Atr)(k:Nat)(y:Atr)(hy:l[k]? = some y)(v:List UInt8):attrC (l.set k (y.1,v))=(attrC l).set (2*k+1) (strV v):=by
 induction l generalizing k with
 | nil=>simp at hy
 | cons x l ih =>
  cases k with
  | zero=>simp at hy;subst hy;rfl
  | succ k =>
   have:=ih k (by simpa using hy)
   rw [List.set_cons_succ]
   show atC x ++ attrC (l.set k (y.1,v))=(atC x ++ attrC l).set (2*(k+1)+1) (strV v)
   rw [this,List.set_append_right _ _ (by show 2≤_;omega)]
   show _=atC x ++ (attrC l).set (2*(k+1)+1 - 2) (strV v)
   congr 2
theorem own_low' {w:World}{B e sz n:Nat}{v:Value}{xs:List Value}(h:w.ownsRow B e sz v n xs):w.ownsRow B e sz v n xs:=h
theorem rc_new (w:World)(c:List Value){B:Nat}(hB:B≤w.heap.size)(hc:c.length=11):RcAt (w.alloc (.cells c.toArray 41)) B (.slice (some ⟨w.heap.size,0,none⟩) 1 1) [c]:=by
 obtain⟨h1,h2⟩:=own_at (n:=1) (size:=11) (Blk.new w c 41) (by omega) (by omega)
 refine⟨by simpa using h1,?_⟩
 rcases h2 with ⟨e,_⟩ | ⟨g',cap,cur,e,_,rest⟩
 ·cases e
 ·cases e;exact .inr ⟨w.heap.size,_,cur,rfl,hB,by simpa using rest⟩
theorem len_text (l:List UInt8)(w:World)(hs:l.length≤100000000) :
  Calls Tryz.prog 65 #[.string ⟨l.toArray⟩] w fun e w'=>e=.returned (.int .i64 (Lib.runeCount ⟨l.toArray⟩))∧Below w.heap.size w w':=by
 have hsz0:(⟨l.toArray⟩:ByteArray).size=l.length:=by show l.toArray.size=_;simp
 have HR:=Lib.hid (fun wx=>Tryz.utf8_RuneCountInString ⟨l.toArray⟩ wx (by rw [hsz0];omega))
 go_enter Tryz.func65,Tryz.ntmps65
 go_wp2_with fail
 refine(HR.out _).mono ?_
 rintro e w1 ⟨rfl,pos,rfl⟩
 go_wp2_with fail
 go_ret
 exact⟨rfl,(Below.refl _ _).alloc (Nat.le_refl _) (.stringIter ⟨l.toArray⟩ pos)⟩
theorem runeCount_len (l:List UInt8):Lib.runeCount ⟨l.toArray⟩≤l.length:=by
 have:=Lib.runeCountFrom_le ⟨l.toArray⟩ (⟨l.toArray⟩:ByteArray).size 0
 have hsz0:(⟨l.toArray⟩:ByteArray).size=l.length:=by show l.toArray.size=_;simp
 unfold Lib.runeCount
 omega
def slGo (s:ByteArray)(a b:Int):Nat→Nat→Nat→Nat→Nat×Nat
 | 0,_,_,i=>(i,s.size)
 | f+1,pos,n,i=>if pos < s.size then(if(n:Int)=b then(if(n:Int)=a then pos else i,pos) else slGo s a b f (pos+(Utf8.decode s pos).2) (n+1) (if(n:Int)=a then pos else i)) else(i,s.size)
def exL (s:ByteArray)(x:Nat×Nat):List UInt8:=(s.extract x.1 x.2).data.toList
theorem exL_mk (s:ByteArray)(i j:Nat):(⟨(exL s (i,j)).toArray⟩:ByteArray)=s.extract i j:=rfl
def sliceF (l:List UInt8)(a b:Int):List UInt8 :=
 if b≤max a 0 then [] else
  exL ⟨(fix l).toArray⟩ (slGo ⟨(fix l).toArray⟩ (max a 0) b (fix l).length 0 0 (fix l).length)
theorem slGo_end (s:ByteArray)(a b:Int)(f pos n i:Nat)(h:¬pos < s.size):slGo s a b f pos n i=(i,s.size):=by
 cases f with
 | zero=>rfl
 | succ f=>simp [slGo,h]
def SlR (w0:World)(s:ByteArray)(L:Nat)(a b:Int)(iv jv nv:Value)(wr:World):Prop :=
 ∃(pos n i f:Nat),slGo s a b f pos n i=slGo s a b L 0 0 L∧s.size≤pos+f∧iv=.int .i64 (i:Int)∧jv=.int .i64 (L:Int)∧nv=.int .i64 (n:Int)∧wr.heap[w0.heap.size]? = some (.stringIter s pos)∧Below w0.heap.size w0 wr∧i≤s.size∧n≤pos∧((n:Int)≤a∨i≤pos)∧(n:Int)≤b
theorem slice_any (l:List UInt8)(a b:Int)(w:World)(hs:l.length≤20000000)(hT:Laid w) :
  Calls Tryz.prog 66 #[.string ⟨l.toArray⟩,.int .i64 a,.int .i64 b] w fun e w'=>e=.returned (.string ⟨(sliceF l a b).toArray⟩)∧Below w.heap.size w w':=by
 unfold sliceF
 have HV:=Lib.hid (repair_any l w (by omega) hT)
 have hfl:=fix_len l
 clear hT
 generalize fix l=l' at *
 have hsz:(⟨l'.toArray⟩:ByteArray).size=l'.length:=by show l'.toArray.size=_;simp
 generalize hss:(⟨l'.toArray⟩:ByteArray)=s at *
 generalize ha:max a 0=a' at *
 have ha0:0≤a':=by omega
 by_cases hab:b≤a'
 ·have d1:decide (b≤a')=true:=by simpa using hab
  go_enter Tryz.func66,Tryz.ntmps66
  go_wp2_with fail
  go_ret
  exact⟨rfl,Below.refl _ _⟩
 ·have d1:decide (b≤a')=false:=by simpa using hab
  go_enter Tryz.func66,Tryz.ntmps66
  go_wp2_with fail
  refine HV.out.mono ?_
  rintro e w0 ⟨rfl,hb0⟩
  go_wp2_with fail
  go_loopw [7,8,9] (fun iv jv nv wr=>SlR w0 s l'.length a' b iv jv nv wr) (fun _ _ _ wr=>s.size - wr.iterPos w0.heap.size)
  case atStart =>
   refine⟨0,0,l'.length,l'.length,rfl,by omega,rfl,rfl,rfl,?_,(Below.refl _ w0).alloc (Nat.le_refl _) _,by omega,Nat.le_refl _,.inl (by omega),by omega⟩
   have:=World.iter_heap w0 s 0
   simpa using this
  case round =>
   obtain⟨pos,n,i,f,hgo,hfu,rfl,rfl,rfl,hit,hbw,hi,hn,hst,hnb⟩:=hrel
   by_cases hp:pos < s.size
   ·obtain⟨f,rfl⟩:∃f',f=f'+1:=⟨f - 1,by have:=width_pos s pos hp;omega⟩
    have hgo2:=hgo
    rw [slGo,if_pos hp] at hgo2
    have Hgo:=Lib.hid hgo2
    clear hgo hgo2
    have hnx:∀ty,(Instr.next (.pointer (some ⟨w0.heap.size,0,none⟩)) true ty).run Tryz.prog wr=_:=fun ty=>Lib.run_next_any_at wr w0.heap.size s pos ty hit hp
    have hwd:=width_pos s pos hp
    have hd1:=decode_le s pos
    have hit2:=Lib.iterAt_heap wr w0.heap.size s pos (pos+(Utf8.decode s pos).2) hit
    have hbw2:=Lib.below_iterAt hbw (k:=w0.heap.size) (by omega) s (pos+(Utf8.decode s pos).2)
    by_cases hna:(n:Int)=a'
    ·have e1:((n:Int) == a')=true:=by simpa using hna
     by_cases hnb':(n:Int)=b
     ·omega
     ·have e2:((n:Int) == b)=false:=by simpa using hnb'
      go_wp2_with fail
      refine⟨⟨pos+(Utf8.decode s pos).2,n+1,pos,f,by have:=Hgo.out;rwa [if_neg hnb',if_pos hna] at this,by omega,rfl,rfl,by rw [← hna];rfl,hit2,hbw2,by omega,by omega,.inr (by omega),by omega⟩,?_⟩
      simp only [World.iterPos,hit2,hit]
      omega
    ·have e1:((n:Int) == a')=false:=by simpa using hna
     by_cases hnb':(n:Int)=b
     ·have e2:((n:Int) == b)=true:=by simpa using hnb'
      have hip:i≤pos:=by omega
      go_wp2_with fail
      go_ret
      have hg:=Hgo.out
      rw [if_pos hnb',if_neg hna] at hg
      (first | rw [← hg] | rw [if_neg (by omega),← hg])
      exact⟨by rw [exL_mk];rfl,hb0.trans (hbw2.mono hb0.size)⟩
     ·have e2:((n:Int) == b)=false:=by simpa using hnb'
      go_wp2_with fail
      refine⟨⟨pos+(Utf8.decode s pos).2,n+1,i,f,by have:=Hgo.out;rwa [if_neg hnb',if_neg hna] at this,by omega,rfl,rfl,rfl,hit2,hbw2,by omega,by omega,by omega,by omega⟩,?_⟩
      simp only [World.iterPos,hit2,hit]
      omega
   ·have hnx:∀ty,(Instr.next (.pointer (some ⟨w0.heap.size,0,none⟩)) true ty).run Tryz.prog wr=_:=fun ty=>Lib.run_next_end_at wr w0.heap.size s pos ty hit hp
    go_wp2_with fail
    go_ret
    rw [slGo_end s a' b f pos n i hp] at hgo
    (first | rw [← hgo] | rw [if_neg (by omega),← hgo])
    exact⟨by rw [exL_mk,hsz];rfl,hb0.trans (hbw.mono hb0.size)⟩
theorem sliceF_len (l:List UInt8)(a b:Int):(sliceF l a b).length≤4*l.length:=by
 have h:=fix_len l
 unfold sliceF
 split
 ·simp
 ·generalize slGo _ _ _ _ _ _ _=x
  have hsz:(⟨(fix l).toArray⟩:ByteArray).size=(fix l).length:=by show(fix l).toArray.size=_;simp
  show((⟨(fix l).toArray⟩:ByteArray).extract x.1 x.2).size≤_
  rw [ByteArray.size_extract,hsz]
  omega
end Go.Proofs.YtfelmdkeaacfeaaGreatDoor.W
end
