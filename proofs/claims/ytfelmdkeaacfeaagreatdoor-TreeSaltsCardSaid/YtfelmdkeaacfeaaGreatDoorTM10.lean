/- Texts joined: BldR NewT Name Low. -/
import Derived.Test.YtfelmdkeaacfeaaGreatDoorTM9
import Derived.Lib.FrozenHead
import Derived.Lib.OthersKept
import Derived.Lib.RuneBytes
import Derived.Shelf.Strings.BuilderK
import Derived.Laws.RangeString
import Derived.Laws.RangeAny
import Derived.LoopTactic
import Derived.Test.YtfelmdkeaacfeaaGreatDoorTM1
import Derived.Test.YtfelmdkeaacfeaaGreatDoorTM7
import Derived.Laws.IdiomStrings
set_option maxRecDepth 100000
set_option maxHeartbeats 40000000
set_option linter.unusedVariables false
set_option linter.unusedSimpArgs false
section
namespace Go.Proofs.YtfelmdkeaacfeaaGreatDoor.W
open Go.RowKit
theorem lt_of_block' {w:World}{k:Nat}{o:Obj}(h:w.heap[k]? = some o):k < w.heap.size:=(Array.getElem?_eq_some_iff.1 h).1
theorem szBld:(Tryz.prog.info? 124).map (·.size)=some 2:=by kernel_rfl
theorem liesBld:liesAt Tryz.prog Tryz.prog.depth 124 (2 / Tryz.prog.cellsOf 124) 0 124 1=true:=by kernel_rfl
theorem neB:124≠5:=by decide
theorem copy_used (b:Nat)(w:World)(h0:w.cell? ⟨b,0,none⟩=some (.pointer (some ⟨b,0,none⟩))) :
  Calls Tryz.prog 114 #[.pointer (some ⟨b,0,none⟩)] w fun e w'=>e=.returned (.tuple #[])∧w'=w:=by
 obtain⟨j,hj,_⟩:=Option.map_eq_some_iff.1 szBld
 go_enter Tryz.func114,Tryz.ntmps114
 go_wp2
 rw [Lib.run_neq_ptr_same w _ Tryz.underlying121 hj]
 go_wp2
 go_end0
 exact⟨rfl,rfl⟩
theorem copy_fresh (b:Nat)(w:World)(h0:w.cell? ⟨b,0,none⟩=some (.pointer none))(hsh:w.shape? b=some (124,2))(hfz:w.frozen? ⟨b,0,none⟩=false) :
  Calls Tryz.prog 114 #[.pointer (some ⟨b,0,none⟩)] w fun e w'=>e=.returned (.tuple #[])∧w'=w.setCell ⟨b,0,none⟩ (.pointer (some ⟨b,0,none⟩)):=by
 obtain⟨j,hj,hjs⟩:=Option.map_eq_some_iff.1 szBld
 go_enter Tryz.func114,Tryz.ntmps114
 go_wp2
 rw [Lib.run_to_unsafe w ⟨b,0,none⟩ Tryz.underlying121 Tryz.underlying180 hj (by rw [hjs];decide) hsh (Nat.zero_lt_succ 1)]
 simp only [Result.andThen]
 rw [Oper.upon_value]
 go_wp2
 rw [run_callFunc_extern Tryz.func131 (by kernel_rfl) (by kernel_rfl) (by kernel_rfl) (e:=Extern.AbiNoEscape.same) (by kernel_rfl)]
 rw [Lib.run_noEscape]
 simp only [Result.andThen]
 rw [Oper.upon_value]
 go_wp2
 rw [Lib.run_from_unsafe w ⟨b,0,none⟩ Tryz.underlying180 Tryz.underlying121 hj hsh liesBld]
 simp only [Result.andThen]
 rw [Oper.upon_value]
 go_wp2
 go_end0
 exact⟨rfl,rfl⟩
theorem copy_any (B b:Nat)(bs:List Value)(w:World)(h:Lib.IsBuilderF 124 5 B b bs w) :
  Calls Tryz.prog 114 #[.pointer (some ⟨b,0,none⟩)] w fun e w'=>e=.returned (.tuple #[])∧(Lib.BuilderAtF 124 5 B b (.pointer (some ⟨b,0,none⟩)) bs w'∧Below B w w'∧Lib.OthersKept 5 (some b) w w'):=by
 rcases h with h | h
 ·refine(copy_fresh b w h.cell0 h.shape h.frozen0).mono ?_
  rintro e w' ⟨rfl,rfl⟩
  exact⟨rfl,h.used _,(Below.refl B w).setCell (p:=⟨b,0,none⟩) h.1 _,(Lib.OthersKept.refl _ _ _).setCell ⟨b,0,none⟩ rfl _⟩
 ·refine(copy_used b w h.cell0).mono ?_
  rintro e w' ⟨rfl,rfl⟩
  exact⟨rfl,h,Below.refl B _,Lib.OthersKept.refl _ _ _⟩
theorem writeRune_any (B b:Nat)(bs:List Value)(r:Int)(hr0:-2147483648≤r)(hr1:r≤2147483647)(w:World)(h:Lib.IsBuilderF 124 5 B b bs w)(hlen:bs.length+4≤1000000000)(hBw:B≤w.heap.size) :
  Calls Tryz.prog 109 #[.pointer (some ⟨b,0,none⟩),.int .i32 r] w fun e w'=>(∃v,e=.returned v)∧(Lib.BuilderAtF 124 5 B b (.pointer (some ⟨b,0,none⟩)) (bs ++ Lib.runeCells r) w'∧Below B w w'∧Lib.OthersKept 5 (some b) w w'):=by
 go_enter Tryz.func109,Tryz.ntmps109
 go_wp2_with (go_at_call 114;refine(copy_any B b bs _ h).mono ?_)
 rintro e w1 ⟨rfl,h1,hb1,hk1⟩
 obtain⟨hB,v,hbk,hown,hne⟩:=h1
 have c0:w1.cell? ⟨b,0,none⟩=some (.pointer (some ⟨b,0,none⟩)):=by rw [Lib.cell_of_heap hbk];rfl
 have c1:w1.cell? ⟨b,1,none⟩=some v:=by rw [Lib.cell_of_heap hbk];rfl
 have HA:=Lib.hid (Tryz.utf8_AppendRune_row B v bs.length bs r hr0 hr1 w1 hown (by omega) (Nat.le_trans hBw hb1.size))
 obtain⟨ao,n',cap,hvs⟩:∃ao n' cap,v=.slice ao n' cap:=by
  rcases hown.2 with ⟨hv,_⟩ | ⟨g,cap,cur,fz,hv,_⟩
  ·exact⟨_,_,_,hv⟩
  ·exact⟨_,_,_,hv⟩
 have HV:=Lib.hid hvs
 have Hown:=Lib.hid hown
 have Hne:=Lib.hid hne
 have Hbk:=Lib.hid hbk
 subst hvs
 clear h hown hne hbk
 go_wp2_with fail
 refine HA.out.mono ?_
 rintro e w2 ⟨v',rfl,hown',o,hgrow⟩
 have hlt:b < w1.heap.size:=by
  rcases Nat.lt_or_ge b w1.heap.size with h' | h'
  ·exact h'
  ·have:=Hbk.out;simp [Array.getElem?_eq_none h'] at this
 have hb2:w2.heap[b]? = some (.cells #[.pointer (some ⟨b,0,none⟩),.slice ao n' cap] 124 (0,0)):=by
  rw [hgrow.block b (by simp;omega) (fun e=>Hne.out e.symm),Below.heap_alloc w1 o b hlt]
  exact Hbk.out
 have hbb:Below B w1 w2:=((Below.refl B w1).alloc (Nat.le_trans hBw hb1.size) o).grown hgrow (by have:=hb1.size;simp;omega) (fun k hk=>(Hown.out.lt k hk).1)
 have d0:w2.cell? ⟨b,0,none⟩=some (.pointer (some ⟨b,0,none⟩)):=by rw [Lib.cell_of_heap hb2];rfl
 have d1:w2.cell? ⟨b,1,none⟩=some (.slice ao n' cap):=by rw [Lib.cell_of_heap hb2];rfl
 have f1:w2.frozen? ⟨b,1,none⟩=false:=Lib.frozen_of_heap hb2 1
 obtain⟨ao2,n2,cap2,rfl⟩:∃ao n' cap,v'=.slice ao n' cap:=by
  rcases hown'.2 with ⟨hv,_⟩ | ⟨g,cap,cur,fz,hv,_⟩
  ·exact⟨_,_,_,hv⟩
  ·exact⟨_,_,_,hv⟩
 have hkk:Lib.OthersKept 5 (some b) w1 w2:=((Lib.OthersKept.refl _ _ w1).alloc o).grown hgrow (fun g hg=>by
  rcases Hown.out.2 with ⟨hv,_⟩ | ⟨g',cap,cur,fz,hv,_,hh,_⟩
  ·rw [hv] at hg;cases hg
  ·rw [hv] at hg
   cases hg
   exact⟨cur,fz,(Below.heap_alloc w1 o _ (lt_of_block' hh)).trans hh⟩)
 have Hown':=Lib.hid hown'
 have HKK:=Lib.hid hkk
 have HB2:=Lib.hid hb2
 have HBB:=Lib.hid hbb
 clear hown' hgrow hb2 HA hbb hkk
 go_wp2_with fail
 go_ret2
 refine⟨⟨_,rfl⟩,?_,?_⟩
 ·exact Lib.BuilderAtF.put (T:=124) (e:=5) hB HB2.out (bs':=bs ++ Lib.runeCells r) (by simpa using Hown'.out) neB
 ·exact⟨(hb1.trans HBB.out).setCell (p:=⟨b,1,none⟩) hB _,(hk1.trans HKK.out).setCell ⟨b,1,none⟩ rfl _⟩
def fixFrom (s:ByteArray):Nat→Nat→List UInt8
 | 0,_=>[]
 | f+1,pos=>if pos < s.size then Lib.encodeRune (Utf8.decode s pos).1 ++ fixFrom s f (pos+(Utf8.decode s pos).2) else []
def fix (l:List UInt8):List UInt8:=if Lib.validD l then l else fixFrom ⟨l.toArray⟩ l.length 0
theorem fixFrom_end (s:ByteArray)(fuel pos:Nat)(h:¬pos < s.size):fixFrom s fuel pos=[]:=by
 cases fuel with
 | zero=>rfl
 | succ f=>simp [fixFrom,h]
theorem width_pos (s:ByteArray)(pos:Nat)(h:pos < s.size):1≤(Utf8.decode s pos).2:=by
 by_cases ha:(s[pos]'h).toNat < 128
 ·rw [decode_ascii s pos h ha]
  exact Nat.le_refl _
 ·exact(decode_high s pos h (by omega)).2
theorem fixFrom_len (s:ByteArray):∀f pos,(fixFrom s f pos).length≤4*f
 | 0,_=>Nat.le_refl _
 | f+1,pos=>by
  unfold fixFrom
  split
  ·have h1:=fixFrom_len s f (pos+(Utf8.decode s pos).2)
   have hl4:=Lib.runeCells_le ((Utf8.decode s pos).1:Int)
   rw [Lib.runeCells_length] at hl4
   rw [List.length_append]
   omega
  ·simp
theorem fix_len (l:List UInt8):(fix l).length≤4*l.length:=by
 unfold fix
 split
 ·omega
 ·exact fixFrom_len _ _ _
theorem repair_any (l:List UInt8)(w:World)(hs:l.length≤100000000)(hT:Laid w) :
  Calls Tryz.prog 63 #[.string ⟨l.toArray⟩] w fun e w'=>e=.returned (.string ⟨(fix l).toArray⟩)∧Below w.heap.size w w':=by
 have HV:=Lib.hid (valid_any ⟨l.toArray⟩ w (by show l.toArray.size≤_;simp;omega) hT)
 have hsz0:(⟨l.toArray⟩:ByteArray).size=l.length:=by show l.toArray.size=_;simp
 clear hT
 unfold fix
 by_cases hv:Lib.validD l=true
 ·simp only [hv] at HV ⊢
  go_enter Tryz.func63,Tryz.ntmps63
  go_wp2_with fail
  refine HV.out.mono ?_
  rintro e w1 ⟨rfl,hb1⟩
  go_wp2_with fail
  go_ret
  exact⟨rfl,hb1⟩
 ·have hv':Lib.validD l=false:=by simpa using hv
  simp only [hv'] at HV ⊢
  generalize hss:(⟨l.toArray⟩:ByteArray)=s at *
  go_enter Tryz.func63,Tryz.ntmps63
  go_wp2_with fail
  refine HV.out.mono ?_
  rintro e w0 ⟨rfl,hb0⟩
  go_wp2_with fail
  go_loopw [] (fun wr=>∃(pos fuel:Nat) (acc:List UInt8),Lib.IsBuilderF 124 5 w0.heap.size w0.heap.size (Lib.byteCells acc) wr∧wr.heap[w0.heap.size+1]? = some (.stringIter s pos)∧Below w0.heap.size w0 wr∧acc ++ fixFrom s fuel pos=fixFrom s l.length 0∧s.size≤pos+fuel∧acc.length≤4*pos) (fun wr=>s.size - wr.iterPos (w0.heap.size+1))
  case atStart =>
   refine⟨0,l.length,[],(Lib.IsBuilderF.of (Lib.fresh_isBuilder 124 5 w0)).alloc _,?_,((Below.refl _ w0).alloc (Nat.le_refl _) _).alloc (by simp) _,rfl,by omega,by simp⟩
   have:=World.iter_heap (w0.alloc (.cells #[.pointer none,.slice none 0 0] 124)) s 0
   simpa using this
  case round =>
   obtain⟨pos,fuel,acc,hI,hit,hbw,hacc,hfu,hal⟩:=hrel
   have hsz:w0.heap.size+1 < wr.heap.size:=(Array.getElem?_eq_some_iff.1 hit).1
   by_cases hp:pos < s.size
   ·have hnx:∀ty,(Instr.next (.pointer (some ⟨w0.heap.size+1,0,none⟩)) true ty).run Tryz.prog wr=_:=fun ty=>Lib.run_next_any_at wr (w0.heap.size+1) s pos ty hit hp
    have hwd:=width_pos s pos hp
    have hd1:=decode_le s pos
    have hI2:=hI.iterAt hit (pos+(Utf8.decode s pos).2)
    have hit2:=Lib.iterAt_heap wr (w0.heap.size+1) s pos (pos+(Utf8.decode s pos).2) hit
    have hbw2:=Lib.below_iterAt hbw (k:=w0.heap.size+1) (by omega) s (pos+(Utf8.decode s pos).2)
    have hsz2:w0.heap.size≤(wr.iterAt (w0.heap.size+1) s (pos+(Utf8.decode s pos).2)).heap.size:=by rw [Lib.iterAt_size];omega
    obtain⟨f,rfl⟩:∃f,fuel=f+1:=⟨fuel - 1,by omega⟩
    have HW:=Lib.hid (writeRune_any w0.heap.size w0.heap.size _ ((Utf8.decode s pos).1:Int) (by omega) (by omega) _ hI2 (by rw [Lib.byteCells_length];omega) hsz2)
    go_wp2_with fail
    refine HW.out.mono ?_
    rintro e W1 ⟨⟨v,rfl⟩,h1,b1,k1⟩
    go_wp2_with fail
    go_roundw
    case rel =>
     have hl4:=Lib.runeCells_le ((Utf8.decode s pos).1:Int)
     rw [Lib.runeCells_length] at hl4
     refine⟨pos+(Utf8.decode s pos).2,f,acc ++ Lib.encodeRune (Utf8.decode s pos).1,?_,k1.iter hit2 (by omega),hbw2.trans b1,?_,by omega,by simp;omega⟩
     ·rw [Lib.byteCells_append,Lib.byteCells_encodeRune];exact Or.inr h1
     ·rw [← hacc];simp [fixFrom,hp]
    case measure =>
     simp only [World.iterPos,k1.iter hit2 (by omega),hit]
     omega
   ·have hnx:∀ty,(Instr.next (.pointer (some ⟨w0.heap.size+1,0,none⟩)) true ty).run Tryz.prog wr=_:=fun ty=>Lib.run_next_end_at wr (w0.heap.size+1) s pos ty hit hp
    have HS:=Lib.hid (Tryz.Builder_String_any_k w0.heap.size w0.heap.size acc _ hI (by omega))
    go_wp2_with fail
    refine HS.out.mono ?_
    rintro e W1 ⟨rfl,_,b1,_⟩
    go_wp2_with fail
    go_ret
    rw [fixFrom_end s fuel pos hp,List.append_nil] at hacc
    subst hacc
    exact⟨by simp,hb0.trans ((hbw.trans b1).mono hb0.size)⟩
theorem arena_new (b s:Int)(w:World) :
  Calls Tryz.prog 84 #[.agg #[.int .i64 b,.int .i64 s]] w fun e w'=>e=.returned (.agg #[.int .i64 b,.int .i64 s,.slice none 0 0,.slice none 0 0,.int .i64 0])∧Below w.heap.size w w':=by
 go_enter Tryz.func84,Tryz.ntmps84
 go_wp2
 exact bodyPost_ret (v:=.agg #[.int .i64 b,.int .i64 s,.slice none 0 0,.slice none 0 0,.int .i64 0]) (by simp [results,Tryz.results84,go_sem]) rfl ⟨rfl,((Below.refl _ _).alloc (Nat.le_refl _) _).alloc (by simp) _⟩
theorem TAt.setRoot {B R:Nat}{S:Tr}{sv fv:Value}{w:World}(h:TAt B R S sv fv w)(r:Int):TAt B R { S with root:=r } sv fv (w.setCell ⟨R,5,none⟩ (.int .i64 r)):=by
 have other:∀{k:Nat}{cs:Array Value}{t:TypeId},w.heap[k]? = some (.cells cs t (0,0))→57≠t→(w.setCell ⟨R,5,none⟩ (.int .i64 r)).heap[k]? = w.heap[k]?:=fun hk ht=>Below.heap_setCell _ _ _ _ (fun e=>blk_ne h.blk hk ht e.symm)
 have keep:∀{e sz n:Nat}{v:Value}{xs:List Value},57≠e→w.ownsRow B e sz v n xs→(w.setCell ⟨R,5,none⟩ (.int .i64 r)).ownsRow B e sz v n xs:=fun ht ⟨h1,h2⟩ =>
  ⟨h1,h2.imp id fun⟨g',cap',cur',e1,e2,e3,rest⟩=>⟨g',cap',cur',e1,e2,(other e3 ht).trans e3,rest⟩⟩
 refine⟨h.blk.set 5 (.int .i64 r),keep (by decide) h.slots,keep (by decide) h.free,fun i n hi=>?_,h.base,h.few⟩
 obtain⟨a,cp,e,hx⟩:=h.attrs i n hi
 exact⟨a,cp,e,hx.imp id fun⟨g',cur',e1,e2,e3,e4⟩=>⟨g',cur',e1,e2,(other e3 (by decide)).trans e3,e4⟩⟩
def newT (b s:Int):Tr:=⟨b,s,[some (newN 1 [])],[],hdl b s 0⟩
theorem tree_new (b s:Int)(w:World) :
  Calls Tryz.prog 38 #[.agg #[.int .i64 b,.int .i64 s]] w fun e w'=>∃R sv,e=.returned (.pointer (some ⟨R,0,none⟩))∧TAt w.heap.size R (newT b s) sv (.slice none 0 0) w'∧Below w.heap.size w w':=by
 go_enter Tryz.func38,Tryz.ntmps38
 go_wp2_with fail
 have hB1:=(Below.refl w.heap.size w).alloc (Nat.le_refl _) (.cells #[.int .i64 b,.int .i64 s] 28)
 have HB1:=Lib.hid hB1
 clear hB1
 generalize w.alloc (.cells #[.int .i64 b,.int .i64 s] 28)=W at *
 refine(arena_new b s _).mono ?_
 rintro e w2 ⟨rfl,hb2⟩
 have HB2:=Lib.hid (HB1.out.trans (hb2.mono HB1.out.size))
 clear hb2
 go_wp2_with fail
 have hA:=TAt.mk (B:=w.heap.size) (S:=⟨b,s,[],[],0⟩) (fv:=.slice none 0 0) (Blk.new w2 [.int .i64 b,.int .i64 s,.slice none 0 0,.slice none 0 0,.int .i64 0,.int .i64 0] 57) (World.ownsRow_nil _ _ _ _) (World.ownsRow_nil _ _ _ _) (fun i n hi=>by simp at hi) HB2.out.size (by simp)
 have hB3:=HB2.out.alloc HB2.out.size (.cells #[.int .i64 b,.int .i64 s,.slice none 0 0,.slice none 0 0,.int .i64 0,.int .i64 0] 57)
 have HB3:=Lib.hid hB3
 clear hB3
 have HA:=Lib.hid (add_new hA rfl (by simp) (newN 1 []) ⟨none,0,rfl,.inl rfl⟩)
 have HT:=Lib.hid hA
 clear hA
 generalize hW2:w2.alloc (.cells #[.int .i64 b,.int .i64 s,.slice none 0 0,.slice none 0 0,.int .i64 0,.int .i64 0] 57)=W2 at *
 generalize hR:w2.heap.size=R at *
 go_wp2_with fail
 refine HA.out.mono ?_
 rintro e w3 ⟨sv,rfl,hT3,hC3,_⟩
 have hlt:=hT3.blk.lt
 have hf:=hT3.blk.free 5
 have c5:=hT3.blk.cell 5
 simp only [zzD,zzE] at c5
 have hT4:=hT3.setRoot (hdl b s 0)
 have HT4:=Lib.hid hT4
 have HC3:=Lib.hid hC3
 have hR2:=HB2.out.size
 clear hT3 hC3 hT4 HA
 go_wp2_with fail
 go_ret
 refine⟨R,sv,rfl,HT4.out,?_⟩
 have h3:Below w.heap.size w w3:=HB3.out.trans (HC3.out.below HB3.out.size (fun k hk=>by
  rcases hk with rfl | e
  ·omega
  ·cases e))
 exact h3.setCell (p:=⟨R,5,none⟩) (by show w.heap.size≤R;omega) _
theorem valid_one (c:UInt8)(hc:Ltr c)(w:World):Calls Tryz.prog 108 #[.string ⟨#[c]⟩] w fun e w'=>e=.returned (.bool true)∧w'=w:=by
 rcases hc with rfl | rfl | rfl
 ·go_enter Tryz.func108,Tryz.ntmps108
  go_wp2_with fail
  go_loopw [0] (fun sv wr=>(sv=.string ⟨#[98]⟩∨sv=.string ⟨#[]⟩)∧wr=w) (fun sv _=>match sv with | .string b=>b.size | _=>0)
  case atStart=>exact⟨.inl rfl,rfl⟩
  case round =>
   obtain⟨rfl | rfl,rfl⟩:=hrel
   ·go_wp2_with fail
    exact⟨⟨.inr rfl,trivial⟩,by decide⟩
   ·go_wp2_with fail
    go_ret
    exact⟨rfl,rfl⟩
 ·go_enter Tryz.func108,Tryz.ntmps108
  go_wp2_with fail
  go_loopw [0] (fun sv wr=>(sv=.string ⟨#[105]⟩∨sv=.string ⟨#[]⟩)∧wr=w) (fun sv _=>match sv with | .string b=>b.size | _=>0)
  case atStart=>exact⟨.inl rfl,rfl⟩
  case round =>
   obtain⟨rfl | rfl,rfl⟩:=hrel
   ·go_wp2_with fail
    exact⟨⟨.inr rfl,trivial⟩,by decide⟩
   ·go_wp2_with fail
    go_ret
    exact⟨rfl,rfl⟩
 ·go_enter Tryz.func108,Tryz.ntmps108
  go_wp2_with fail
  go_loopw [0] (fun sv wr=>(sv=.string ⟨#[112]⟩∨sv=.string ⟨#[]⟩)∧wr=w) (fun sv _=>match sv with | .string b=>b.size | _=>0)
  case atStart=>exact⟨.inl rfl,rfl⟩
  case round =>
   obtain⟨rfl | rfl,rfl⟩:=hrel
   ·go_wp2_with fail
    exact⟨⟨.inr rfl,trivial⟩,by decide⟩
   ·go_wp2_with fail
    go_ret
    exact⟨rfl,rfl⟩
theorem textValid_one (c:UInt8)(hc:Ltr c)(w:World):Calls Tryz.prog 124 #[.string ⟨#[c]⟩] w fun e w'=>e=.returned (.bool true)∧w'=w:=by
 have H:=valid_one c hc w
 go_enter Tryz.func124,Tryz.ntmps124
 go_wp2_with fail
 refine H.mono ?_
 rintro e w' ⟨rfl,rfl⟩
 go_wp2_with fail
 go_ret
 exact⟨rfl,rfl⟩
def lowB (b:UInt8):UInt8:=if 65≤b.toNat∧b.toNat≤90 then UInt8.ofNat (b.toNat+32) else b
structure LwR (w:World) (l:List UInt8) (k:Nat) (wr:World):Prop where
 cell:∀j b,l[j]? = some b→wr.cell? ⟨w.heap.size,j,none⟩=some (.int .u8 (((if j < k then lowB b else b).toNat:Nat):Int))
 free:∀j,j < l.length→wr.frozen? ⟨w.heap.size,j,none⟩=false
 below:Below w.heap.size w wr
 lt:w.heap.size < wr.heap.size
theorem LwR.start (w:World)(s:ByteArray)(cap:Nat)(t:TypeId):LwR w s.data.toList 0 (w.drew.alloc (.cells (bytesRow s cap) t ((bytesRow s cap).size,(bytesRow s cap).size+1))):=by
 have hn:(w.drew.alloc (.cells (bytesRow s cap) t ((bytesRow s cap).size,(bytesRow s cap).size+1))).heap[w.heap.size]? = some (.cells (bytesRow s cap) t ((bytesRow s cap).size,(bytesRow s cap).size+1)):=heap_alloc_new w.drew _
 refine⟨?_,?_,(Below.refl _ _).drew.alloc (Nat.le_refl _) _,by simp⟩
 ·intro j b hb
  have hj:j < s.data.size:=by have:=(List.getElem?_eq_some_iff.1 hb).1;simpa using this
  rw [if_neg (by omega)]
  unfold World.cell?
  simp only [hn]
  unfold bytesRow
  rw [Array.getElem?_append_left (by simpa using hj),Array.getElem?_map]
  have:s.data[j]? = some b:=by simpa using hb
  rw [this]
  rfl
 ·intro j hj
  have hj:j < s.data.size:=by simpa using hj
  unfold World.frozen?
  simp only [hn]
  have:(bytesRow s cap).size ≥ s.data.size:=by unfold bytesRow;simp
  simp;omega
theorem LwR.skip {w wr:World}{l:List UInt8}{k:Nat}(h:LwR w l k wr){b:UInt8}(hb:l[k]? = some b)(hn:lowB b=b):LwR w l (k+1) wr:=by
 refine⟨fun j c hc=>?_,h.free,h.below,h.lt⟩
 have:=h.cell j c hc
 by_cases e:j=k
 ·subst e
  rw [hb] at hc
  cases hc
  rw [if_pos (by omega),hn]
  rw [if_neg (by omega)] at this
  exact this
 ·by_cases e2:j < k
  ·rw [if_pos (by omega)];rw [if_pos e2] at this;exact this
  ·rw [if_neg (by omega)];rw [if_neg e2] at this;exact this
theorem LwR.put {w wr:World}{l:List UInt8}{k:Nat}(h:LwR w l k wr){b:UInt8}(hb:l[k]? = some b){v:Int}(hv:v=((lowB b).toNat:Nat)):LwR w l (k+1) (wr.setCell ⟨w.heap.size,k,none⟩ (.int .u8 v)):=by
 have hin:=h.cell k b hb
 refine⟨fun j c hc=>?_,fun j hj=>?_,h.below.setCell (p:=⟨w.heap.size,k,none⟩) (Nat.le_refl _) _,by simpa using h.lt⟩
 ·have:=h.cell j c hc
  by_cases e:j=k
  ·subst e
   rw [hb] at hc
   cases hc
   rw [if_pos (by omega),← hv]
   exact World.cell?_setCell_same _ _ _ hin
  ·rw [World.cell?_setCell_other _ _ _ _ (by intro e2;simp only [Addr.mk.injEq] at e2;exact e e2.2.1.symm)]
   by_cases e2:j < k
   ·rw [if_pos (by omega)];rw [if_pos e2] at this;exact this
   ·rw [if_neg (by omega)];rw [if_neg e2] at this;exact this
 ·rw [World.frozen?_setCell];exact h.free j hj
theorem mapped_low (s:ByteArray)(hs:s.size≤9000000000000000000)(w:World) :
  Calls Tryz.prog 138 #[.string s,.int .u8 65,.int .u8 90,.int .i64 32] w fun e w'=>e=.returned (.string ⟨(s.data.toList.map lowB).toArray⟩)∧Below w.heap.size w w':=by
 have hc:=run_bytes_of_string (P:=Tryz.prog) w 9 122 5 s Tryz.underlying9 Tryz.underlying122 Tryz.underlying5
 have hst:=LwR.start w s (grownCap w s.size 0 5) 5
 have hback:=fun(wr:World) (h:LwR w s.data.toList s.data.toList.length wr) (cap:Nat)=>run_convert_bytes_back (P:=Tryz.prog) wr 122 9 5 ⟨w.heap.size,0,none⟩ cap (s.data.toList.map lowB) Tryz.underlying122 Tryz.underlying5 Tryz.underlying9 (fun j hj=>by
  have hj':j < s.data.toList.length:=by simpa using hj
  have:=h.cell j s.data.toList[j] (List.getElem?_eq_getElem hj')
  rw [if_pos hj'] at this
  rw [Go.WideShapes.add_plain]
  simpa using this)
 have hsz:s.data.toList.length=s.size:=Array.length_toList
 simp only [List.length_map,hsz] at hback
 have HBK:=Lib.hid hback
 have HST:=Lib.hid hst
 have HSZ:=Lib.hid hsz
 clear hback hst hsz
 generalize w.drew.alloc (.cells (bytesRow s (grownCap w s.size 0 5)) 5 ((bytesRow s (grownCap w s.size 0 5)).size,(bytesRow s (grownCap w s.size 0 5)).size+1))=W at *
 generalize grownCap w s.size 0 5=cap at *
 go_enter Tryz.func138,Tryz.ntmps138
 go_wp2_with fail
 go_loopw [16] (fun iv wr=>∃k:Nat,k≤s.size∧iv=.int .i64 (k:Int)∧LwR w s.data.toList k wr) (fun iv _=>s.size - (intOf iv).toNat)
 case atStart=>exact⟨0,Nat.zero_le _,rfl,HST.out⟩
 case round =>
  clear hc
  obtain⟨k,hk,rfl,hR⟩:=hrel
  by_cases hlt:k < s.size
  ·have hkl:k < s.data.toList.length:=by rw [HSZ.out];exact hlt
   obtain⟨b,hb⟩:∃b,s.data.toList[k]? = some b:=⟨_,List.getElem?_eq_getElem hkl⟩
   have c0:=hR.cell k b hb
   rw [if_neg (by omega)] at c0
   have f0:=hR.free k hkl
   have hb256:b.toNat < 256:=b.toNat_lt
   have HR:=Lib.hid hR
   have HBB:=Lib.hid hb
   clear hR hb hkl
   by_cases h1:65≤b.toNat
   ·have d1:decide ((65:Int)≤(b.toNat:Int))=true:=by simp;omega
    by_cases h2:b.toNat≤90
    ·have d2:decide ((b.toNat:Int)≤90)=true:=by simp;omega
     have hv:(b.toNat:Int)+32=((lowB b).toNat:Nat):=by unfold lowB;rw [if_pos ⟨h1,h2⟩];simp;omega
     have HV:=Lib.hid hv
     clear hv
     go_wp2_with fail
     exact⟨⟨k+1,by omega,by go_num,HR.out.put HBB.out HV.out⟩,by simp [intOf];omega⟩
    ·have d2:decide ((b.toNat:Int)≤90)=false:=by simp;omega
     have HV:=Lib.hid (show lowB b=b by unfold lowB;rw [if_neg (by omega)])
     go_wp2_with fail
     exact⟨⟨k+1,by omega,by go_num,HR.out.skip HBB.out HV.out⟩,by simp [intOf];omega⟩
   ·have d1:decide ((65:Int)≤(b.toNat:Int))=false:=by simp;omega
    have HV:=Lib.hid (show lowB b=b by unfold lowB;rw [if_neg (by omega)])
    go_wp2_with fail
    exact⟨⟨k+1,by omega,by go_num,HR.out.skip HBB.out HV.out⟩,by simp [intOf];omega⟩
  ·obtain rfl:k=s.size:=by omega
   have hbk:=HBK.out wr hR cap
   have HR:=Lib.hid hR
   clear hR
   go_wp2_with fail
   go_ret
   exact⟨rfl,HR.out.below⟩
theorem lower_bytes (s:ByteArray)(hs:s.size≤9000000000000000000)(w:World) :
  Calls Tryz.prog 125 #[.string s] w fun e w'=>e=.returned (.string ⟨(s.data.toList.map lowB).toArray⟩)∧Below w.heap.size w w':=by
 have H:=Lib.hid (mapped_low s hs w)
 go_enter Tryz.func125,Tryz.ntmps125
 go_wp2_with fail
 refine H.out.mono ?_
 rintro e w' ⟨rfl,hb⟩
 go_wp2_with fail
 go_ret
 exact⟨rfl,hb⟩
end Go.Proofs.YtfelmdkeaacfeaaGreatDoor.W
end
