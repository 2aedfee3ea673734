/- Texts joined: Cany Nm. -/
import Derived.Test.YtfelmdkeaacfeaaGreatDoorTM1
import Derived.Test.YtfelmdkeaacfeaaGreatDoorTM12
import Derived.Test.YtfelmdkeaacfeaaGreatDoorTM5
import Derived.Laws.RangeAny
import Derived.Laws.Runes
import Derived.WalkMore
import Derived.Deep.QuietTactic
import Derived.BigQuiet
import Derived.ScopeJumps
import Derived.Test.YtfelmdkeaacfeaaGreatDoorTM11
set_option maxRecDepth 100000
set_option maxHeartbeats 40000000
set_option linter.unusedVariables false
set_option linter.unusedSimpArgs false
section
namespace Go.Proofs.YtfelmdkeaacfeaaGreatDoor.W
open Go.RowKit
theorem decode_no_surr (s:ByteArray)(pos:Nat):((Utf8.decode s pos).1 < 55296∨57344≤(Utf8.decode s pos).1)∧(Utf8.decode s pos).1≤1114111:=by
 rw [Lib.decode_at]
 have k0:=(s.get! pos).toNat_lt
 have k1:=(s.get! (pos+1)).toNat_lt
 have k2:=(s.get! (pos+2)).toNat_lt
 have k3:=(s.get! (pos+3)).toNat_lt
 unfold Lib.decodeN
 repeat' split
 all_goals (simp only [];omega)
theorem encode_two (r:Int)(h0:128≤r)(h1:r < 2048):∃x y:UInt8,Utf8.encode r=⟨#[x,y]⟩∧128≤y.toNat:=by
 have hv:Utf8.valid r=true:=by unfold Utf8.valid;simp;omega
 refine⟨UInt8.ofNat (0xC0+r.toNat / 64),UInt8.ofNat (0x80+r.toNat % 64),?_,?_⟩
 ·unfold Utf8.encode
  simp only [hv,if_true]
  rw [if_neg (by omega),if_pos (by omega)]
 ·rw [UInt8.toNat_ofNat']
  omega
theorem encode_three (r:Int)(h0:2048≤r)(h1:r < 65536)(hs:r < 55296∨57344≤r):∃x y z:UInt8,Utf8.encode r=⟨#[x,y,z]⟩∧128≤z.toNat:=by
 have hv:Utf8.valid r=true:=by unfold Utf8.valid;simp;omega
 refine⟨UInt8.ofNat (0xE0+r.toNat / 4096),UInt8.ofNat (0x80+r.toNat / 64 % 64),UInt8.ofNat (0x80+r.toNat % 64),?_,?_⟩
 ·unfold Utf8.encode
  simp only [hv,if_true]
  rw [if_neg (by omega),if_neg (by omega),if_pos (by omega)]
 ·rw [UInt8.toNat_ofNat']
  omega
theorem encode_four (r:Int)(h0:65536≤r)(h1:r≤1114111):∃x y z u:UInt8,Utf8.encode r=⟨#[x,y,z,u]⟩∧128≤u.toNat:=by
 have hv:Utf8.valid r=true:=by unfold Utf8.valid;simp;omega
 refine⟨UInt8.ofNat (0xF0+r.toNat / 262144),UInt8.ofNat (0x80+r.toNat / 4096 % 64),UInt8.ofNat (0x80+r.toNat / 64 % 64),UInt8.ofNat (0x80+r.toNat % 64),?_,?_⟩
 ·unfold Utf8.encode
  simp only [hv,if_true]
  rw [if_neg (by omega),if_neg (by omega),if_neg (by omega)]
 ·rw [UInt8.toNat_ofNat']
  omega
theorem no_byte (l:List UInt8)(h:∀b∈l,b.toNat < 128)(y:UInt8)(hy:128≤y.toNat):Lib.indexByte l y=-1:=by
 induction l with
 | nil=>rfl
 | cons b l ih =>
  have hb:=h b (by simp)
  have hne:¬b=y:=fun e=>by subst e;omega
  have:=ih (fun c hc=>h c (by simp [hc]))
  simp [Lib.indexByte,hne,this]
theorem indexRune_two (r:Int)(h0:128≤r)(h1:r < 2048)(w:World) :
  Calls Tryz.prog 139 #[.string ⟨#[9,10,12,13,32,47,62]⟩,.int .i32 r] w fun e w'=>e=.returned (.int .i64 (-1))∧Below w.heap.size w w':=by
 have HV:=Lib.hid (Tryz.utf8_ValidRune r w)
 have hv:Lib.validRune r=true:=by unfold Lib.validRune;simp;omega
 rw [hv] at HV
 obtain⟨x,y,he,hy⟩:=encode_two r h0 h1
 have d0:decide ((0:Int)≤r)=true:=by simp;omega
 have d1:decide (r < 128)=false:=by simp;omega
 have d2:(r == 65533)=false:=by simp;omega
 have HB:=Lib.hid (fun wx=>Tryz.strings_IndexByte ((⟨#[9,10,12,13,32,47,62]⟩:ByteArray).extract 2 7) (y.toNat:Int) wx)
 have hB:Lib.indexByte ((⟨#[9,10,12,13,32,47,62]⟩:ByteArray).extract 2 7).data.toList ((y.toNat:Int)).toNat.toUInt8=-1:=no_byte _ (fun b hb=>by
  have e:((⟨#[9,10,12,13,32,47,62]⟩:ByteArray).extract 2 7).data.toList=[12,13,32,47,62]:=by rfl
  rw [e] at hb
  simp only [List.mem_cons,List.not_mem_nil,or_false] at hb
  rcases hb with rfl | rfl | rfl | rfl | rfl <;> decide) _ (by simpa using hy)
 simp only [hB] at HB
 have e1:((((⟨#[9,10,12,13,32,47,62]⟩:ByteArray)[1]'(by decide)).toNat:Int) != (((⟨#[x,y]⟩:ByteArray)[1]'(by show 1 < 2;omega)).toNat:Int))=true:=by
  show(((10:Int)) != (y.toNat:Int))=true
  simp
  omega
 clear hv hB
 go_enter Tryz.func139,Tryz.ntmps139
 go_wp2_with fail
 refine HV.out.mono ?_
 rintro e wz ⟨rfl,hw⟩
 subst wz
 go_wp2_with fail
 go_step3
 go_wp2_with fail
 go_loopw [9] (fun iv wr=>iv=.int .i64 1∧wr=w) (fun _ _=>0)
 case atStart=>exact⟨rfl,rfl⟩
 case round =>
  obtain⟨rfl,hw⟩:=hrel
  subst wr
  go_wp2_with fail
  go_step3
  go_upto_region 6 with fail
  go_quiet (fail)
  go_upto_region 7 with fail
  have hne:=stb_ne (w.drewN nq)
  refine reg_b (fun _=>.int .i64 (-1)) 8 (by kernel_rfl) (by kernel_rfl) ?_
  simp only [zzF,zzG,zzH,zzI]
  repeat (first
   | (refine m_held (by rfl) (by rfl) (fun K hK=>?_);go_big_quiet_step (fail);refine wpQuiet_nil ?_;refine hK.out _ ?_;clear hK K)
   | (refine m_skip (by rfl) ?_;simp only [Act.put,zzA,zzB,zzC]))
  refine m_call (.int .i64 (-1)) rfl (by rfl) (by rfl) (fun w=>by go_simp;exact⟨rfl,rfl⟩) ?_ ?_
  ·intro X wx hx
   refine(HB.out _).mono ?_
   rintro e wz ⟨rfl,hw⟩
   subst wz
   exact⟨rfl,hx⟩
  simp only [Act.put,zzA,zzB,zzC]
  repeat (first
   | (refine m_held (by rfl) (by rfl) (fun K hK=>?_);go_big_quiet_step (fail);refine wpQuiet_nil ?_;refine hK.out _ ?_;clear hK K)
   | (refine m_skip (by rfl) ?_;simp only [Act.put,zzA,zzB,zzC]))
  refine m_nil ?_
  intro w2 h2
  go_wp2_with fail
  rw [Exit.noGoto_ret]
  simp only [Exit.inBlock]
  show Exit.noGoto _ Exit.ret _ _
  rw [Exit.noGoto_ret]
  simp only [Exit.inBlock,Exit.then]
  rw [Exit.noGoto_ret]
  go_ret
  exact⟨rfl,(Below.drewN (Below.refl _ _) _).trans (h2.mono (by simp))⟩
theorem indexRune_three (r:Int)(h0:2048≤r)(h1:r < 65536)(hs:r < 55296∨57344≤r)(hx:r≠65533)(w:World) :
  Calls Tryz.prog 139 #[.string ⟨#[9,10,12,13,32,47,62]⟩,.int .i32 r] w fun e w'=>e=.returned (.int .i64 (-1))∧Below w.heap.size w w':=by
 have HV:=Lib.hid (Tryz.utf8_ValidRune r w)
 have hv:Lib.validRune r=true:=by unfold Lib.validRune;simp;omega
 rw [hv] at HV
 obtain⟨x,y,z,he,hy⟩:=encode_three r h0 h1 hs
 have d0:decide ((0:Int)≤r)=true:=by simp;omega
 have d1:decide (r < 128)=false:=by simp;omega
 have d2:(r == 65533)=false:=by simp;omega
 have HB:=Lib.hid (fun wx=>Tryz.strings_IndexByte ((⟨#[9,10,12,13,32,47,62]⟩:ByteArray).extract 3 7) (z.toNat:Int) wx)
 have hB:Lib.indexByte ((⟨#[9,10,12,13,32,47,62]⟩:ByteArray).extract 3 7).data.toList ((z.toNat:Int)).toNat.toUInt8=-1:=no_byte _ (fun b hb=>by
  have e:((⟨#[9,10,12,13,32,47,62]⟩:ByteArray).extract 3 7).data.toList=[13,32,47,62]:=by rfl
  rw [e] at hb
  simp only [List.mem_cons,List.not_mem_nil,or_false] at hb
  rcases hb with rfl | rfl | rfl | rfl <;> decide) _ (by simpa using hy)
 simp only [hB] at HB
 have e1:((((⟨#[9,10,12,13,32,47,62]⟩:ByteArray)[2]'(by decide)).toNat:Int) != (((⟨#[x,y,z]⟩:ByteArray)[2]'(by show 2 < 3;omega)).toNat:Int))=true:=by
  show(((12:Int)) != (z.toNat:Int))=true
  simp
  omega
 clear hv hB
 go_enter Tryz.func139,Tryz.ntmps139
 go_wp2_with fail
 refine HV.out.mono ?_
 rintro e wz ⟨rfl,hw⟩
 subst wz
 go_wp2_with fail
 go_step3
 go_wp2_with fail
 go_loopw [9] (fun iv wr=>iv=.int .i64 2∧wr=w) (fun _ _=>0)
 case atStart=>exact⟨rfl,rfl⟩
 case round =>
  obtain⟨rfl,hw⟩:=hrel
  subst wr
  go_wp2_with fail
  go_step3
  go_upto_region 6 with fail
  go_quiet (fail)
  go_upto_region 7 with fail
  have hne:=stb_ne (w.drewN nq)
  refine reg_b (fun _=>.int .i64 (-1)) 8 (by kernel_rfl) (by kernel_rfl) ?_
  simp only [zzF,zzG,zzH,zzI]
  repeat (first
   | (refine m_held (by rfl) (by rfl) (fun K hK=>?_);go_big_quiet_step (fail);refine wpQuiet_nil ?_;refine hK.out _ ?_;clear hK K)
   | (refine m_skip (by rfl) ?_;simp only [Act.put,zzA,zzB,zzC]))
  refine m_call (.int .i64 (-1)) rfl (by rfl) (by rfl) (fun w=>by go_simp;exact⟨rfl,rfl⟩) ?_ ?_
  ·intro X wx hx
   refine(HB.out _).mono ?_
   rintro e wz ⟨rfl,hw⟩
   subst wz
   exact⟨rfl,hx⟩
  simp only [Act.put,zzA,zzB,zzC]
  repeat (first
   | (refine m_held (by rfl) (by rfl) (fun K hK=>?_);go_big_quiet_step (fail);refine wpQuiet_nil ?_;refine hK.out _ ?_;clear hK K)
   | (refine m_skip (by rfl) ?_;simp only [Act.put,zzA,zzB,zzC]))
  refine m_nil ?_
  intro w2 h2
  go_wp2_with fail
  rw [Exit.noGoto_ret]
  simp only [Exit.inBlock]
  show Exit.noGoto _ Exit.ret _ _
  rw [Exit.noGoto_ret]
  simp only [Exit.inBlock,Exit.then]
  rw [Exit.noGoto_ret]
  go_ret
  exact⟨rfl,(Below.drewN (Below.refl _ _) _).trans (h2.mono (by simp))⟩
theorem indexRune_four (r:Int)(h0:65536≤r)(h1:r≤1114111)(w:World) :
  Calls Tryz.prog 139 #[.string ⟨#[9,10,12,13,32,47,62]⟩,.int .i32 r] w fun e w'=>e=.returned (.int .i64 (-1))∧Below w.heap.size w w':=by
 have HV:=Lib.hid (Tryz.utf8_ValidRune r w)
 have hv:Lib.validRune r=true:=by unfold Lib.validRune;simp;omega
 rw [hv] at HV
 obtain⟨x,y,z,u,he,hy⟩:=encode_four r h0 h1
 have d0:decide ((0:Int)≤r)=true:=by simp;omega
 have d1:decide (r < 128)=false:=by simp;omega
 have d2:(r == 65533)=false:=by simp;omega
 have HB:=Lib.hid (fun wx=>Tryz.strings_IndexByte ((⟨#[9,10,12,13,32,47,62]⟩:ByteArray).extract 4 7) (u.toNat:Int) wx)
 have hB:Lib.indexByte ((⟨#[9,10,12,13,32,47,62]⟩:ByteArray).extract 4 7).data.toList ((u.toNat:Int)).toNat.toUInt8=-1:=no_byte _ (fun b hb=>by
  have e:((⟨#[9,10,12,13,32,47,62]⟩:ByteArray).extract 4 7).data.toList=[32,47,62]:=by rfl
  rw [e] at hb
  simp only [List.mem_cons,List.not_mem_nil,or_false] at hb
  rcases hb with rfl | rfl | rfl <;> decide) _ (by simpa using hy)
 simp only [hB] at HB
 have e1:((((⟨#[9,10,12,13,32,47,62]⟩:ByteArray)[3]'(by decide)).toNat:Int) != (((⟨#[x,y,z,u]⟩:ByteArray)[3]'(by show 3 < 4;omega)).toNat:Int))=true:=by
  show(((13:Int)) != (u.toNat:Int))=true
  simp
  omega
 clear hv hB
 go_enter Tryz.func139,Tryz.ntmps139
 go_wp2_with fail
 refine HV.out.mono ?_
 rintro e wz ⟨rfl,hw⟩
 subst wz
 go_wp2_with fail
 go_step3
 go_wp2_with fail
 go_loopw [9] (fun iv wr=>iv=.int .i64 3∧wr=w) (fun _ _=>0)
 case atStart=>exact⟨rfl,rfl⟩
 case round =>
  obtain⟨rfl,hw⟩:=hrel
  subst wr
  go_wp2_with fail
  go_step3
  go_upto_region 6 with fail
  go_quiet (fail)
  go_upto_region 7 with fail
  have hne:=stb_ne (w.drewN nq)
  refine reg_b (fun _=>.int .i64 (-1)) 8 (by kernel_rfl) (by kernel_rfl) ?_
  simp only [zzF,zzG,zzH,zzI]
  repeat (first
   | (refine m_held (by rfl) (by rfl) (fun K hK=>?_);go_big_quiet_step (fail);refine wpQuiet_nil ?_;refine hK.out _ ?_;clear hK K)
   | (refine m_skip (by rfl) ?_;simp only [Act.put,zzA,zzB,zzC]))
  refine m_call (.int .i64 (-1)) rfl (by rfl) (by rfl) (fun w=>by go_simp;exact⟨rfl,rfl⟩) ?_ ?_
  ·intro X wx hx
   refine(HB.out _).mono ?_
   rintro e wz ⟨rfl,hw⟩
   subst wz
   exact⟨rfl,hx⟩
  simp only [Act.put,zzA,zzB,zzC]
  repeat (first
   | (refine m_held (by rfl) (by rfl) (fun K hK=>?_);go_big_quiet_step (fail);refine wpQuiet_nil ?_;refine hK.out _ ?_;clear hK K)
   | (refine m_skip (by rfl) ?_;simp only [Act.put,zzA,zzB,zzC]))
  refine m_nil ?_
  intro w2 h2
  go_wp2_with fail
  rw [Exit.noGoto_ret]
  simp only [Exit.inBlock]
  show Exit.noGoto _ Exit.ret _ _
  rw [Exit.noGoto_ret]
  simp only [Exit.inBlock,Exit.then]
  rw [Exit.noGoto_ret]
  go_ret
  exact⟨rfl,(Below.drewN (Below.refl _ _) _).trans (h2.mono (by simp))⟩
theorem indexRune_bad (w:World) :
  Calls Tryz.prog 139 #[.string ⟨#[9,10,12,13,32,47,62]⟩,.int .i32 65533] w fun e w'=>e=.returned (.int .i64 (-1))∧Below w.heap.size w w':=by
 have HD:=Lib.hid (fun(pos:Nat) (hp:pos < 7)=>(show ∃c:Nat,c < 128∧Utf8.decode ⟨#[9,10,12,13,32,47,62]⟩ pos=(c,1) from by
  have hs:(⟨#[9,10,12,13,32,47,62]⟩:ByteArray).size=7:=rfl
  have ha:((⟨#[9,10,12,13,32,47,62]⟩:ByteArray)[pos]'(by rw [hs];exact hp)).toNat < 128:=by
   have hm:(⟨#[9,10,12,13,32,47,62]⟩:ByteArray)[pos]'(by rw [hs];exact hp)∈([9,10,12,13,32,47,62]:List UInt8):=by
    show(#[9,10,12,13,32,47,62]:Array UInt8)[pos]'hp∈_
    exact Array.mem_toList_iff.2 (Array.getElem_mem hp)
   generalize (⟨#[9,10,12,13,32,47,62]⟩:ByteArray)[pos]'(by rw [hs];exact hp)=b at hm
   simp only [List.mem_cons,List.not_mem_nil,or_false] at hm
   rcases hm with rfl | rfl | rfl | rfl | rfl | rfl | rfl <;> decide
  exact⟨_,ha,decode_ascii _ pos (by rw [hs];exact hp) ha⟩))
 have hs:(⟨#[9,10,12,13,32,47,62]⟩:ByteArray).size=7:=rfl
 generalize (⟨#[9,10,12,13,32,47,62]⟩:ByteArray)=s at *
 go_enter Tryz.func139,Tryz.ntmps139
 go_wp2_with fail
 go_loopw [5,6] (fun _ _ wr=>∃pos:Nat,pos≤7∧wr.heap[w.heap.size]? = some (.stringIter s pos)∧Below w.heap.size w wr) (fun _ _ wr=>7 - wr.iterPos w.heap.size)
 case atStart =>
  refine⟨0,by omega,?_,(Below.refl _ w).alloc (Nat.le_refl _) _⟩
  have:=World.iter_heap w s 0
  simpa using this
 case round =>
  obtain⟨pos,hpos,hit,hb⟩:=hrel
  by_cases hp:pos < 7
  ·obtain⟨c,hc,hd⟩:=HD.out pos hp
   have hnx:∀ty,(Instr.next (.pointer (some ⟨w.heap.size,0,none⟩)) true ty).run Tryz.prog wr=_:=fun ty=>Lib.run_next_any_at wr w.heap.size s pos ty hit (by omega)
   rw [hd] at hnx
   have hit2:=Lib.iterAt_heap wr w.heap.size s pos (pos+1) hit
   have hbw2:=Lib.below_iterAt hb (k:=w.heap.size) (by omega) s (pos+1)
   have e1:(((c:Nat):Int) == 65533)=false:=by simp;omega
   go_wp2_with fail
   refine⟨⟨pos+1,by omega,hit2,hbw2⟩,?_⟩
   simp only [World.iterPos,hit2,hit]
   omega
  ·have hnx:∀ty,(Instr.next (.pointer (some ⟨w.heap.size,0,none⟩)) true ty).run Tryz.prog wr=_:=fun ty=>Lib.run_next_end_at wr w.heap.size s pos ty hit (by omega)
   go_wp2_with fail
   go_ret
   exact⟨rfl,hb⟩
theorem indexRune_any (r:Int)(h0:128≤r)(h1:r < 55296∨57344≤r)(h2:r≤1114111)(w:World) :
  Calls Tryz.prog 139 #[.string ⟨#[9,10,12,13,32,47,62]⟩,.int .i32 r] w fun e w'=>e=.returned (.int .i64 (-1))∧Below w.heap.size w w':=by
 by_cases q0:r=65533
 ·subst q0;exact indexRune_bad w
 by_cases q1:r < 2048
 ·exact indexRune_two r h0 q1 w
 by_cases q2:r < 65536
 ·exact indexRune_three r (by omega) q2 h1 q0 w
 ·exact indexRune_four r (by omega) h2 w
theorem dec_bytes (s:ByteArray)(pos:Nat)(h:pos < s.size)(ha:128≤bz s pos):pos+(Utf8.decode s pos).2≤s.size∧∀j,pos≤j→j < pos+(Utf8.decode s pos).2→128≤bz s j:=by
 have hj:∀j w,w≤4→pos≤j→j < pos+w→(w≤1∨128≤bz s (pos+1))→(w≤2∨128≤bz s (pos+2))→(w≤3∨128≤bz s (pos+3))→128≤bz s j:=by
  intro j w hw h1 h2 c1 c2 c3
  rcases(show j=pos∨j=pos+1∨j=pos+2∨j=pos+3 by omega) with rfl | rfl | rfl | rfl
  ·exact ha
  ·rcases c1 with c | c
   ·omega
   ·exact c
  ·rcases c2 with c | c
   ·omega
   ·exact c
  ·rcases c3 with c | c
   ·omega
   ·exact c
 rw [Lib.decode_at]
 change _∧∀j,_→j < pos+(Lib.decodeN (s.size - pos) (bz s pos) (bz s (pos+1)) (bz s (pos+2)) (bz s (pos+3))).2→_
 have key:∀w,(Lib.decodeN (s.size - pos) (bz s pos) (bz s (pos+1)) (bz s (pos+2)) (bz s (pos+3))).2=w→w≤4∧pos+w≤s.size∧(w≤1∨128≤bz s (pos+1))∧(w≤2∨128≤bz s (pos+2))∧(w≤3∨128≤bz s (pos+3)):=by
  intro w hw
  subst hw
  generalize bz s pos=b0 at *
  generalize bz s (pos+1)=b1 at *
  generalize bz s (pos+2)=b2 at *
  generalize bz s (pos+3)=b3 at *
  unfold Lib.decodeN
  repeat' split
  all_goals (simp only [];omega)
 obtain⟨k1,k2,k3,k4,k5⟩:=key _ rfl
 exact⟨k2,fun j h1 h2=>hj j _ k1 h1 h2 k3 k4 k5⟩
def spL:List UInt8:=[9,10,12,13,32,47,62]
theorem spL_low (x:UInt8)(h:128≤x.toNat):spL.contains x=false:=by
 unfold spL
 simp only [List.contains_cons,List.contains_nil,Bool.or_false,Bool.or_eq_false_iff,beq_eq_false_iff_ne]
 refine⟨?_,?_,?_,?_,?_,?_,?_⟩ <;> (rintro rfl;revert h;decide)
theorem noAny_high (s:ByteArray)(pos:Nat)(hno:Lib.NoAny s.data.toList spL pos)(w:Nat)(hb:∀j,pos≤j→j < pos+w→128≤bz s j)(hw:pos+w≤s.size):Lib.NoAny s.data.toList spL (pos+w):=by
 intro j b hj hjb
 by_cases h:j < pos
 ·exact hno j b h hjb
 ·have:=hb j (by omega) hj
  refine spL_low b ?_
  rw [bz_at s j (by omega)] at this
  have e:s.data.toList[j]? = some (s[j]'(by omega)):=Lib.data_getElem? s j (by omega)
  rw [e] at hjb
  cases hjb
  exact this
theorem indexAny_short (s:ByteArray)(w:World)(h8:s.size≤8) :
  Calls Tryz.prog 126 #[.string s,.string ⟨#[9,10,12,13,32,47,62]⟩] w fun e w'=>e=.returned (.int .i64 (Lib.indexAny s.data.toList spL))∧Below w.heap.size w w':=by
 have h8z:decide ((8:Int) < (s.size:Int))=false:=decide_eq_false (by omega)
 have HU:=Lib.hid (fun wx=>Tryz.strings_shouldUseASCIISet (s.size:Int) wx)
 simp only [h8z] at HU
 have HIA:=Lib.hid (fun(x:UInt8) (hx:x.toNat < 128) wx=>Tryz.strings_IndexRune_ascii ⟨#[9,10,12,13,32,47,62]⟩ (x.toNat:Int) wx (by omega) (by omega))
 have HIH:=Lib.hid (fun r h0 h1 h2 wx=>indexRune_any r h0 h1 h2 wx)
 have hsp:(⟨#[9,10,12,13,32,47,62]⟩:ByteArray).data.toList=spL:=rfl
 have h7:(⟨#[9,10,12,13,32,47,62]⟩:ByteArray).size=7:=rfl
 have hne:((⟨#[9,10,12,13,32,47,62]⟩:ByteArray).toList == [])=false:=by rw [ByteArray.toList_mk];rfl
 have hne2:(⟨#[9,10,12,13,32,47,62]⟩:ByteArray).toList≠[]:=by rw [ByteArray.toList_mk];decide
 have hsp2:([9,10,12,13,32,47,62]:List UInt8)=spL:=rfl
 generalize hch:(⟨#[9,10,12,13,32,47,62]⟩:ByteArray)=ch at *
 simp only [hsp] at HIA
 clear hsp2
 go_enter Tryz.func126,Tryz.ntmps126
 go_wp2_with fail
 refine(HU.out _).mono ?_
 rintro e w1 ⟨rfl,hw⟩
 subst w1
 go_wp2_with fail
 go_loopw [9,10] (fun _ _ wr=>∃pos:Nat,pos≤s.size∧wr.heap[w.heap.size]? = some (.stringIter s pos)∧Below w.heap.size w wr∧Lib.NoAny s.data.toList spL pos) (fun _ _ wr=>s.size - wr.iterPos w.heap.size)
 case atStart =>
  refine⟨0,by omega,?_,(Below.refl _ w).alloc (Nat.le_refl _) _,Lib.NoAny.zero _ _⟩
  have:=World.iter_heap w s 0
  simpa using this
 case round =>
  obtain⟨pos,hpos,hit,hb,hno⟩:=hrel
  have HN:=Lib.hid hno
  clear hno
  by_cases hp:pos < s.size
  ·have hnx:∀ty,(Instr.next (.pointer (some ⟨w.heap.size,0,none⟩)) true ty).run Tryz.prog wr=_:=fun ty=>Lib.run_next_any_at wr w.heap.size s pos ty hit hp
   have hxl:s.data.toList[pos]? = some (s[pos]'hp):=Lib.data_getElem? s pos hp
   by_cases ha:(s[pos]'hp).toNat < 128
   ·rw [decode_ascii s pos hp ha] at hnx
    have hit2:=Lib.iterAt_heap wr w.heap.size s pos (pos+1) hit
    have hbw2:=Lib.below_iterAt hb (k:=w.heap.size) (by omega) s (pos+1)
    generalize hx:s[pos]'hp=x at *
    have hcon:=Lib.contains_iff_indexByte spL x
    have hback:((x.toNat:Int)).toNat.toUInt8=x:=by simp
    have HI:=Lib.hid (fun wx=>HIA.out x ha wx)
    simp only [hback] at HI
    cases hin:spL.contains x
    ·rw [hin] at hcon
     have hlt:¬((0:Int)≤Lib.indexByte spL x):=of_decide_eq_false hcon.symm
     have HX:=Lib.hid hxl
     have HIn:=Lib.hid hin
     clear hcon hxl hin
     go_wp2_with fail
     refine(HI.out _).mono ?_
     rintro e w3 ⟨rfl,hw⟩
     subst w3
     go_wp2_with fail
     refine⟨⟨pos+1,by omega,hit2,hbw2,HN.out.succ HX.out HIn.out⟩,?_⟩
     simp only [World.iterPos,hit2,hit]
     omega
    ·rw [hin] at hcon
     have hge:(0:Int)≤Lib.indexByte spL x:=of_decide_eq_true hcon.symm
     have HX:=Lib.hid hxl
     have HIn:=Lib.hid hin
     clear hcon hxl hin
     go_wp2_with fail
     refine(HI.out _).mono ?_
     rintro e w3 ⟨rfl,hw⟩
     subst w3
     go_wp2_with fail
     go_ret
     exact⟨by rw [Lib.indexAny_hit HN.out HX.out HIn.out];rfl,hbw2⟩
   ·have hz:128≤bz s pos:=by rw [bz_at s pos hp];omega
    obtain⟨hle,hbs⟩:=dec_bytes s pos hp hz
    have hw:=width_pos s pos hp
    obtain⟨hs1,hs2⟩:=decode_no_surr s pos
    have hhi:=(decode_high s pos hp (by omega)).1
    have hit2:=Lib.iterAt_heap wr w.heap.size s pos (pos+(Utf8.decode s pos).2) hit
    have hbw2:=Lib.below_iterAt hb (k:=w.heap.size) (by omega) s (pos+(Utf8.decode s pos).2)
    have HI:=Lib.hid (fun wx=>HIH.out ((Utf8.decode s pos).1:Int) (by omega) (by omega) (by omega) wx)
    have HNN:=Lib.hid (noAny_high s pos HN.out _ hbs hle)
    clear hbs hxl
    go_wp2_with fail
    refine(HI.out _).mono ?_
    rintro e w3 ⟨rfl,hb3⟩
    have hit3:w3.heap[w.heap.size]? = some (.stringIter s (pos+(Utf8.decode s pos).2)):=(hb3.block _ (lt_of_block' hit2)).trans hit2
    go_wp2_with fail
    refine⟨⟨_,hle,hit3,hbw2.trans (hb3.mono hbw2.size),HNN.out⟩,?_⟩
    simp only [World.iterPos,hit3,hit]
    omega
  ·have hnx:∀ty,(Instr.next (.pointer (some ⟨w.heap.size,0,none⟩)) true ty).run Tryz.prog wr=_:=fun ty=>Lib.run_next_end_at wr w.heap.size s pos ty hit hp
   obtain rfl:pos=s.size:=by omega
   go_wp2_with fail
   go_ret
   exact⟨by rw [Lib.indexAny_none (by rw [Array.length_toList];exact HN.out)];rfl,hb⟩
theorem indexAny_any (s:ByteArray)(w:World)(hs:s.size≤1000000) :
  Calls Tryz.prog 126 #[.string s,.string ⟨#[9,10,12,13,32,47,62]⟩] w fun e w'=>e=.returned (.int .i64 (Lib.indexAny s.data.toList spL))∧Below w.heap.size w w':=by
 by_cases h8:s.size≤8
 ·exact indexAny_short s w h8
 ·refine(Tryz.strings_IndexAny_long (zero_of_info (v:=.agg (Array.replicate 256 (.bool false))) (n:=256) (by kernel_rfl)).1 s ⟨#[9,10,12,13,32,47,62]⟩ w (by decide) (by omega) (by omega) (by decide) (ascii_of (by decide))).mono ?_
  rintro e w' ⟨rfl,rfl⟩
  exact⟨rfl,((Below.refl _ _).alloc (Nat.le_refl _) _).alloc (by simp) _⟩
theorem containsAny_any (s:ByteArray)(w:World)(hs:s.size≤1000000) :
  Calls Tryz.prog 106 #[.string s,.string ⟨#[9,10,12,13,32,47,62]⟩] w fun e w'=>e=.returned (.bool (Lib.containsAny s.data.toList spL))∧Below w.heap.size w w':=by
 have HI:=Lib.hid (indexAny_any s w hs)
 go_enter Tryz.func106,Tryz.ntmps106
 go_wp2_with fail
 refine HI.out.mono ?_
 rintro e w1 ⟨rfl,hb⟩
 go_wp2_with fail
 go_ret
 exact⟨rfl,hb⟩
def okA (l:List UInt8):Bool:=decide (l≠[]) && (Lib.validD l && decide (l.map lowB=l)) && !Lib.containsAny l spL
def headB (l:List UInt8):Bool:=okA l && decide (Lib.indexByte (l.drop 1) 61 < 0)
def elmB (l:List UInt8):Bool:=okA l && (decide (97≤(l.getD 0 0).toNat) && decide ((l.getD 0 0).toNat≤122))
theorem bsz (l:List UInt8):(⟨l.toArray⟩:ByteArray).size=l.length:=by show l.toArray.size=_;simp
theorem textValid_b (l:List UInt8)(w:World)(hs:l.length≤100000000)(hT:Laid w):Calls Tryz.prog 124 #[.string ⟨l.toArray⟩] w fun e w'=>e=.returned (.bool (Lib.validD l))∧Below w.heap.size w w':=by
 have H:=Lib.hid (valid_any ⟨l.toArray⟩ w (by show l.toArray.size≤_;simp;omega) hT)
 simp only [show(⟨l.toArray⟩:ByteArray).data.toList=l from rfl] at H
 go_enter Tryz.func124,Tryz.ntmps124
 go_wp2_with fail
 refine H.out.mono ?_
 rintro e w' ⟨rfl,hb⟩
 go_wp2_with fail
 go_ret
 exact⟨rfl,hb⟩
theorem lower_b (l:List UInt8)(w:World)(hs:l.length≤100000000)(hT:Laid w):Calls Tryz.prog 105 #[.string ⟨l.toArray⟩] w fun e w'=>e=.returned (.bool (Lib.validD l && decide (l.map lowB=l)))∧Below w.heap.size w w':=by
 have HV:=Lib.hid (textValid_b l w hs hT)
 have HL:=Lib.hid (fun wx=>lower_bytes ⟨l.toArray⟩ (by show l.toArray.size≤_;simp;omega) wx)
 simp only [show(⟨l.toArray⟩:ByteArray).data.toList=l from rfl] at HL
 have hse:=str_eq (l.map lowB) l
 clear hT
 cases hv:Lib.validD l
 ·rw [hv] at HV
  go_enter Tryz.func105,Tryz.ntmps105
  go_wp2_with fail
  refine HV.out.mono ?_
  rintro e w' ⟨rfl,hb1⟩
  go_wp2_with fail
  go_ret
  exact⟨rfl,hb1⟩
 ·rw [hv] at HV
  rw [Bool.true_and]
  generalize (⟨(l.map lowB).toArray⟩:ByteArray)=s1 at *
  generalize (⟨l.toArray⟩:ByteArray)=s at *
  go_enter Tryz.func105,Tryz.ntmps105
  go_wp2_with fail
  refine HV.out.mono ?_
  rintro e w' ⟨rfl,hb1⟩
  go_wp2_with fail
  refine(HL.out _).mono ?_
  rintro e w2 ⟨rfl,hb⟩
  go_wp2_with fail
  go_ret
  exact⟨by first | rfl | simp [hse],bthen hb1 hb⟩
theorem neq_nil (l:List UInt8)(h:l≠[]):((⟨l.toArray⟩:ByteArray).toList == (⟨#[]⟩:ByteArray).toList)=false∧((⟨l.toArray⟩:ByteArray).toList == [])=false∧(⟨l.toArray⟩:ByteArray).toList≠[]:=by
 refine⟨?_,?_,?_⟩
 ·rw [show(⟨#[]⟩:ByteArray)=⟨([]:List UInt8).toArray⟩ from rfl,str_eq]
  exact decide_eq_false h
 ·rw [ByteArray.toList_mk];simpa using h
 ·rw [ByteArray.toList_mk];exact h
theorem extract_one (l:List UInt8):(⟨l.toArray⟩:ByteArray).extract 1 l.length=⟨(l.drop 1).toArray⟩:=by
 apply ByteArray.ext
 apply Array.toList_inj.1
 have:=Lib.extract_to_end ⟨l.toArray⟩ 1
 rw [bsz] at this
 exact this
theorem attrName_b (l:List UInt8)(hl:l.length≤1000000)(w:World)(hT:Laid w):Calls Tryz.prog 62 #[.string ⟨l.toArray⟩] w fun e w'=>e=.returned (.bool (headB l))∧Below w.heap.size w w':=by
 unfold headB okA
 by_cases hn:l=[]
 ·subst hn
  go_enter Tryz.func62,Tryz.ntmps62
  go_wp2_with fail
  go_ret
  exact⟨rfl,Below.refl _ _⟩
 ·rw [decide_eq_true hn,Bool.true_and]
  have hsz:=bsz l
  have hl0:1≤l.length:=by cases l with | nil=>exact absurd rfl hn | cons a t=>simp
  have HV:=Lib.hid (lower_b l w (by omega) hT)
  have HC:=Lib.hid (fun w=>containsAny_any ⟨l.toArray⟩ w (by rw [hsz];omega))
  simp only [show(⟨l.toArray⟩:ByteArray).data.toList=l from rfl] at HC
  have hx:=extract_one l
  have HI:=Lib.hid (fun w=>Tryz.strings_IndexByte ⟨(l.drop 1).toArray⟩ 61 w)
  simp only [show(⟨(l.drop 1).toArray⟩:ByteArray).data.toList=l.drop 1 from rfl,show(61:Int).toNat.toUInt8=61 from rfl] at HI
  obtain⟨hne,hne3,hne4⟩:=neq_nil l hn
  generalize hs:(⟨l.toArray⟩:ByteArray)=s at *
  clear hT hs
  generalize (⟨(l.drop 1).toArray⟩:ByteArray)=s1 at *
  generalize (Lib.validD l && decide (l.map lowB=l))=bl at *
  generalize Lib.containsAny l spL=bc at *
  generalize Lib.indexByte (l.drop 1) 61=ib at *
  cases bl
  ·go_enter Tryz.func62,Tryz.ntmps62
   go_wp2_with fail
   refine HV.out.mono ?_
   rintro e w1 ⟨rfl,hb1⟩
   go_wp2_with fail
   go_ret
   exact⟨rfl,hb1⟩
  ·cases bc
   ·go_enter Tryz.func62,Tryz.ntmps62
    go_wp2_with fail
    refine HV.out.mono ?_
    rintro e w1 ⟨rfl,hb1⟩
    go_wp2_with fail
    refine(HC.out _).mono ?_
    rintro e w2 ⟨rfl,hb2⟩
    go_wp2_with fail
    refine(HI.out _).mono ?_
    rintro e w3 ⟨rfl,hw⟩
    rw [hw]
    go_wp2_with fail
    go_ret
    exact⟨rfl,bthen hb1 hb2⟩
   ·go_enter Tryz.func62,Tryz.ntmps62
    go_wp2_with fail
    refine HV.out.mono ?_
    rintro e w1 ⟨rfl,hb1⟩
    go_wp2_with fail
    refine(HC.out _).mono ?_
    rintro e w2 ⟨rfl,hb2⟩
    go_wp2_with fail
    go_ret
    exact⟨rfl,bthen hb1 hb2⟩
theorem getD_zero (l:List UInt8)(h:0 < (⟨l.toArray⟩:ByteArray).size):((⟨l.toArray⟩:ByteArray)[0]'h)=l.getD 0 0:=by
 cases l with
 | nil=>exact absurd h (by decide)
 | cons a t=>rfl
theorem elementName_b (l:List UInt8)(hl:l.length≤1000000)(w:World)(hT:Laid w):Calls Tryz.prog 86 #[.string ⟨l.toArray⟩] w fun e w'=>e=.returned (.bool (elmB l))∧Below w.heap.size w w':=by
 unfold elmB okA
 by_cases hn:l=[]
 ·subst hn
  go_enter Tryz.func86,Tryz.ntmps86
  go_wp2_with fail
  go_ret
  exact⟨rfl,Below.refl _ _⟩
 ·rw [decide_eq_true hn,Bool.true_and]
  have hsz:=bsz l
  have hl0:1≤l.length:=by cases l with | nil=>exact absurd rfl hn | cons a t=>simp
  have h0:0 < (⟨l.toArray⟩:ByteArray).size:=by rw [hsz];omega
  have hg:=getD_zero l h0
  have HV:=Lib.hid (lower_b l w (by omega) hT)
  have HC:=Lib.hid (fun w=>containsAny_any ⟨l.toArray⟩ w (by rw [hsz];omega))
  simp only [show(⟨l.toArray⟩:ByteArray).data.toList=l from rfl] at HC
  obtain⟨hne,hne3,hne4⟩:=neq_nil l hn
  generalize hs:(⟨l.toArray⟩:ByteArray)=s at *
  clear hT hs
  generalize (Lib.validD l && decide (l.map lowB=l))=bl at *
  generalize Lib.containsAny l spL=bc at *
  rw [← hg]
  clear hg
  by_cases c0:97≤(s[0]'h0).toNat
  ·have d0:decide ((97:Int)≤((s[0]'h0).toNat:Int))=true:=by simp;omega
   rw [decide_eq_true c0]
   by_cases c1:(s[0]'h0).toNat≤122
   ·have d1:decide (((s[0]'h0).toNat:Int)≤122)=true:=by simp;omega
    rw [decide_eq_true c1]
    cases bl
    ·go_enter Tryz.func86,Tryz.ntmps86
     go_wp2_with fail
     refine HV.out.mono ?_
     rintro e w1 ⟨rfl,hb1⟩
     go_wp2_with fail
     go_ret
     exact⟨rfl,hb1⟩
    ·cases bc
     ·go_enter Tryz.func86,Tryz.ntmps86
      go_wp2_with fail
      refine HV.out.mono ?_
      rintro e w1 ⟨rfl,hb1⟩
      go_wp2_with fail
      refine(HC.out _).mono ?_
      rintro e w2 ⟨rfl,hb2⟩
      go_wp2_with fail
      go_ret
      exact⟨rfl,bthen hb1 hb2⟩
     ·go_enter Tryz.func86,Tryz.ntmps86
      go_wp2_with fail
      refine HV.out.mono ?_
      rintro e w1 ⟨rfl,hb1⟩
      go_wp2_with fail
      refine(HC.out _).mono ?_
      rintro e w2 ⟨rfl,hb2⟩
      go_wp2_with fail
      go_ret
      exact⟨rfl,bthen hb1 hb2⟩
   ·have d1:decide (((s[0]'h0).toNat:Int)≤122)=false:=by simp;omega
    rw [decide_eq_false c1]
    go_enter Tryz.func86,Tryz.ntmps86
    go_wp2_with fail
    go_ret
    exact⟨by simp,Below.refl _ _⟩
  ·have d0:decide ((97:Int)≤((s[0]'h0).toNat:Int))=false:=by simp;omega
   rw [decide_eq_false c0]
   go_enter Tryz.func86,Tryz.ntmps86
   go_wp2_with fail
   go_ret
   exact⟨by simp,Below.refl _ _⟩
/-! ### the reference -/
def spR (c:Nat):Bool:=decide (c=9∨c=10∨c=12∨c=13∨c=32)
def badR (c:Nat):Bool:=spR c || decide (c=47) || decide (c=62) || (decide (65≤c) && decide (c≤90))
theorem space_any (c:Nat)(w:World):Calls Tryz.prog 134 #[.int .u8 (c:Int)] w fun e w'=>e=.returned (.bool (spR c))∧w'=w:=by
 unfold spR
 generalize hx:(c:Int)=x
 by_cases q0:c=9
 ·have e0:x=9:=by omega
  rw [decide_eq_true (by omega)]
  clear hx q0
  go_enter Tryz.func134,Tryz.ntmps134
  go_wp2
  go_ret
  exact⟨rfl,rfl⟩
 have e0:(x == 9)=false:=by simp;omega
 by_cases q1:c=10
 ·have e1:(x == 10)=true:=by simp;omega
  rw [decide_eq_true (by omega)]
  go_enter Tryz.func134,Tryz.ntmps134
  go_wp2
  go_ret
  exact⟨rfl,rfl⟩
 have e1:(x == 10)=false:=by simp;omega
 by_cases q2:c=12
 ·have e2:(x == 12)=true:=by simp;omega
  rw [decide_eq_true (by omega)]
  go_enter Tryz.func134,Tryz.ntmps134
  go_wp2
  go_ret
  exact⟨rfl,rfl⟩
 have e2:(x == 12)=false:=by simp;omega
 by_cases q3:c=13
 ·have e3:(x == 13)=true:=by simp;omega
  rw [decide_eq_true (by omega)]
  go_enter Tryz.func134,Tryz.ntmps134
  go_wp2
  go_ret
  exact⟨rfl,rfl⟩
 have e3:(x == 13)=false:=by simp;omega
 by_cases q4:c=32
 ·have e4:(x == 32)=true:=by simp;omega
  rw [decide_eq_true (by omega)]
  go_enter Tryz.func134,Tryz.ntmps134
  go_wp2
  go_ret
  exact⟨rfl,rfl⟩
 ·have e4:(x == 32)=false:=by simp;omega
  rw [decide_eq_false (by omega)]
  go_enter Tryz.func134,Tryz.ntmps134
  go_wp2
  go_ret
  exact⟨rfl,rfl⟩
theorem space_is (c:Nat)(b:Bool)(hb:spR c=b)(w:World):Calls Tryz.prog 134 #[.int .u8 (c:Int)] w fun e w'=>e=.returned (.bool b)∧w'=w:=hb ▸ space_any c w
def atR (l:List UInt8):Bool:=!(l.any fun c=>badR c.toNat) && (decide (l≠[]) && decide (rfix l=l))
theorem any_drop (l:List UInt8)(p:UInt8→Bool)(i:Nat)(h:l.any p=(l.drop i).any p)(b:UInt8)(hb:l[i]? = some b)(hp:p b=false):l.any p=(l.drop (i+1)).any p:=by
 have hi:=(List.getElem?_eq_some_iff.1 hb).1
 have e:l.drop i=b :: l.drop (i+1):=by
  rw [List.drop_eq_getElem_cons hi]
  congr 1
  exact(List.getElem?_eq_some_iff.1 hb).2
 rw [h,e,List.any_cons,hp,Bool.false_or]
theorem any_hit (l:List UInt8)(p:UInt8→Bool)(i:Nat)(b:UInt8)(hb:l[i]? = some b)(hp:p b=true):l.any p=true:=List.any_eq_true.2 ⟨b,List.mem_of_getElem? hb,hp⟩
theorem attribute_any (l:List UInt8)(hl:l.length≤1000000)(w:World):Calls Tryz.prog 121 #[.string ⟨l.toArray⟩] w fun e w'=>e=.returned (.bool (atR l))∧Below w.heap.size w w':=by
 have hsz:=bsz l
 have HR:=Lib.hid (fun wx=>repairR_any l wx (by omega))
 have hse:=str_eq (rfix l) l
 have HG:=Lib.hid (fun(i:Nat) (hi:i < l.length)=>(show ∃h:i < (⟨l.toArray⟩:ByteArray).size,l[i]? = some ((⟨l.toArray⟩:ByteArray)[i]'h) from⟨by rw [hsz];exact hi,Lib.data_getElem? ⟨l.toArray⟩ i (by rw [hsz];exact hi)⟩))
 have hnn:=fun h=>neq_nil l h
 have HS:=Lib.hid (fun c b hb wx=>space_is c b hb wx)
 have HD:=Lib.hid (fun i h b hb hp=>any_drop l (fun c=>badR c.toNat) i h b hb hp)
 have HH:=Lib.hid (fun i b hb hp=>any_hit l (fun c=>badR c.toNat) i b hb hp)
 generalize hs:(⟨l.toArray⟩:ByteArray)=s at *
 go_enter Tryz.func121,Tryz.ntmps121
 go_wp2_with fail
 go_loopw [3,4] (fun iv _ wr=>∃i:Nat,i≤l.length∧iv=.int .i64 (i:Int)∧(l.any fun c=>badR c.toNat)=((l.drop i).any fun c=>badR c.toNat)∧Below w.heap.size w wr) (fun iv _ _=>l.length - intN iv)
 case atStart=>exact⟨0,by omega,rfl,rfl,Below.refl _ _⟩
 case round =>
  obtain⟨i,hi,rfl,hany,hB⟩:=hrel
  have HA:=Lib.hid hany
  clear hany
  by_cases hlt:i < l.length
  ·obtain⟨hi2,hget⟩:=HG.out i hlt
   have hlt2:(i:Int) < (s.size:Int):=by omega
   obtain⟨x,hx⟩:∃x,s[i]'hi2=x:=⟨_,rfl⟩
   rw [hx] at hget
   have hq0:∀b,badR x.toNat=b→spR x.toNat=true→b=true:=fun b h1 h2=>by rw [← h1];unfold badR;rw [h2];simp
   have HX:=Lib.hid hx
   have HGt:=Lib.hid hget
   clear hget
   rw [← hx] at hq0
   by_cases hsp:spR (s[i]'hi2).toNat=true
   ·have HC:=Lib.hid (fun wx=>HS.out (s[i]'hi2).toNat true hsp wx)
    have hres:atR l=false:=by unfold atR;rw [HH.out i x HGt.out (by show badR x.toNat=true;rw [← HX.out];unfold badR;rw [hsp];simp)];simp
    have HRes:=Lib.hid hres
    clear hq0 hsp hres hx
    go_wp2_with fail
    refine(HC.out _).mono ?_
    rintro e wz ⟨rfl,hw⟩
    subst wz
    go_wp2_with fail
    go_ret
    exact⟨by rw [HRes.out];rfl,hB⟩
   ·have hsp':spR (s[i]'hi2).toNat=false:=by simpa using hsp
    have HC:=Lib.hid (fun wx=>HS.out (s[i]'hi2).toNat false hsp' wx)
    by_cases h47:(s[i]'hi2).toNat=47
    ·have e47:((((s[i]'hi2).toNat:Nat):Int) == 47)=true:=by simp;omega
     have hres:atR l=false:=by unfold atR;rw [HH.out i x HGt.out (by show badR x.toNat=true;rw [← HX.out];unfold badR;simp [h47])];simp
     have HRes:=Lib.hid hres
     clear hq0 hsp hsp' hres hx h47
     go_wp2_with fail
     refine(HC.out _).mono ?_
     rintro e wz ⟨rfl,hw⟩
     subst wz
     go_wp2_with fail
     go_ret
     exact⟨by rw [HRes.out];rfl,hB⟩
    ·have e47:((((s[i]'hi2).toNat:Nat):Int) == 47)=false:=by simp;omega
     by_cases h62:(s[i]'hi2).toNat=62
     ·have e62:((((s[i]'hi2).toNat:Nat):Int) == 62)=true:=by simp;omega
      have hres:atR l=false:=by unfold atR;rw [HH.out i x HGt.out (by show badR x.toNat=true;rw [← HX.out];unfold badR;simp [h62])];simp
      have HRes:=Lib.hid hres
      clear hq0 hsp hsp' hres hx h47 h62
      go_wp2_with fail
      refine(HC.out _).mono ?_
      rintro e wz ⟨rfl,hw⟩
      subst wz
      go_wp2_with fail
      go_ret
      exact⟨by rw [HRes.out];rfl,hB⟩
     ·have e62:((((s[i]'hi2).toNat:Nat):Int) == 62)=false:=by simp;omega
      by_cases h65:65≤(s[i]'hi2).toNat
      ·have e65:decide ((65:Int)≤(((s[i]'hi2).toNat:Nat):Int))=true:=by simp;omega
       by_cases h90:(s[i]'hi2).toNat≤90
       ·have e90:decide ((((s[i]'hi2).toNat:Nat):Int)≤90)=true:=by simp;omega
        have hres:atR l=false:=by unfold atR;rw [HH.out i x HGt.out (by show badR x.toNat=true;rw [← HX.out];unfold badR;simp [h65,h90])];simp
        have HRes:=Lib.hid hres
        clear hq0 hsp hsp' hres hx h47 h62 h65 h90
        go_wp2_with fail
        refine(HC.out _).mono ?_
        rintro e wz ⟨rfl,hw⟩
        subst wz
        go_wp2_with fail
        go_ret
        exact⟨by rw [HRes.out];rfl,hB⟩
       ·have e90:decide ((((s[i]'hi2).toNat:Nat):Int)≤90)=false:=by simp;omega
        have hbad:badR x.toNat=false:=by rw [← HX.out];unfold badR;simp [hsp',h47,h62];omega
        have HN:=Lib.hid (HD.out i HA.out x HGt.out hbad)
        clear hq0 hsp hsp' hbad hx h47 h62 h65 h90
        go_wp2_with fail
        refine(HC.out _).mono ?_
        rintro e wz ⟨rfl,hw⟩
        subst wz
        go_wp2_with fail
        exact⟨⟨i+1,by omega,by first | rfl | simp,HN.out,hB⟩,by simp only [intN];omega⟩
      ·have e65:decide ((65:Int)≤(((s[i]'hi2).toNat:Nat):Int))=false:=by simp;omega
       have hbad:badR x.toNat=false:=by rw [← HX.out];unfold badR;simp [hsp',h47,h62];omega
       have HN:=Lib.hid (HD.out i HA.out x HGt.out hbad)
       clear hq0 hsp hsp' hbad hx h47 h62 h65
       go_wp2_with fail
       refine(HC.out _).mono ?_
       rintro e wz ⟨rfl,hw⟩
       subst wz
       go_wp2_with fail
       exact⟨⟨i+1,by omega,by first | rfl | simp,HN.out,hB⟩,by simp only [intN];omega⟩
  ·obtain rfl:i=l.length:=by omega
   have hlt2:¬(l.length:Int) < (s.size:Int):=by omega
   have hany:=HA.out
   rw [List.drop_length] at hany
   have hres:atR l=(decide (l≠[]) && decide (rfix l=l)):=by unfold atR;rw [hany];rfl
   clear hany
   by_cases hn:l=[]
   ·have hs0:s=⟨#[]⟩:=by rw [← hs,hn]
    rw [decide_eq_false (by simpa using hn)] at hres
    have HRes:=Lib.hid hres
    clear hnn HR hse hres
    subst hs0
    go_wp2_with fail
    go_ret
    exact⟨by first | rfl | (rw [HRes.out];rfl),hB⟩
   ·obtain⟨hne,hne3,hne4⟩:=hnn hn
    rw [decide_eq_true hn,Bool.true_and] at hres
    have HRes:=Lib.hid hres
    have HB:=Lib.hid hB
    clear hnn hres
    generalize (⟨(rfix l).toArray⟩:ByteArray)=s2 at *
    go_wp2_with fail
    refine(HR.out _).mono ?_
    rintro e w2 ⟨rfl,hb2⟩
    go_wp2_with fail
    go_ret
    exact⟨by rw [HRes.out];first | rfl | simp [hse],bthen HB.out hb2⟩
/-! ### the two agree -/
theorem badR_eq (c:UInt8):badR c.toNat=(spL.contains c || decide (lowB c≠c)):=by
 have h:=c.toNat_lt
 have:∀n:Fin 256,badR n.val=(spL.contains (UInt8.ofNat n.val) || decide (lowB (UInt8.ofNat n.val)≠UInt8.ofNat n.val)):=by decide +kernel
 have:=this ⟨c.toNat,h⟩
 simpa using this
theorem containsAny_any_eq (l:List UInt8):Lib.containsAny l spL=l.any (fun c=>spL.contains c):=by
 unfold Lib.containsAny
 by_cases h:l.any (fun c=>spL.contains c)=true
 ·rw [h]
  obtain⟨b,hb,hc⟩:=List.any_eq_true.1 h
  rw [decide_eq_true_iff]
  rcases(show Lib.indexAny l spL < 0∨0≤Lib.indexAny l spL by omega) with hlt | hge
  ·exfalso
   have hge:=Lib.indexAny_ge spL l
   obtain⟨j,hj⟩:=List.mem_iff_getElem?.1 hb
   -- the first that is in the list
   obtain⟨i,hi,x,hx,hmin⟩:∃i,Lib.NoAny l spL i∧∃x,l[i]? = some x∧spL.contains x=true:=by
    clear hlt hge
    induction j using Nat.strongRecOn generalizing b with
    | ind j ih =>
     by_cases q:∃k y,k < j∧l[k]? = some y∧spL.contains y=true
     ·obtain⟨k,y,hk,hy,hyc⟩:=q
      exact ih k hk y (List.mem_of_getElem? hy) hyc hy
     ·refine⟨j,fun k y hk hy=>?_,b,hj,hc⟩
      cases e:spL.contains y with
      | false=>rfl
      | true=>exact absurd ⟨k,y,hk,hy,e⟩ q
   rw [Lib.indexAny_hit hi hx hmin] at hlt
   omega
  ·exact hge
 ·have h':l.any (fun c=>spL.contains c)=false:=by simpa using h
  rw [h',decide_eq_false_iff_not,Lib.indexAny_none]
  ·omega
  ·intro j b _ hb
   rw [List.any_eq_false] at h'
   simpa using h' b (List.mem_of_getElem? hb)
theorem map_low_eq (l:List UInt8):(l.map lowB=l)↔(l.any fun c=>decide (lowB c≠c))=false:=by
 rw [List.any_eq_false]
 induction l with
 | nil=>simp
 | cons b l ih =>
  rw [List.map_cons,List.cons.injEq,ih]
  simp
theorem atR_eq (l:List UInt8):atR l=okA l:=by
 unfold atR okA
 have e1:(l.any fun c=>badR c.toNat)=((l.any fun c=>spL.contains c) || (l.any fun c=>decide (lowB c≠c))):=by
  induction l with
  | nil=>rfl
  | cons b l ih =>
   rw [List.any_cons,List.any_cons,List.any_cons,ih,badR_eq]
   cases spL.contains b <;> cases decide (lowB b≠b) <;> simp
 rw [e1,containsAny_any_eq]
 have e2:decide (rfix l=l)=Lib.validD l:=by
  have:=rfix_iff l
  cases hv:Lib.validD l with
  | true=>exact decide_eq_true (this.1 hv)
  | false=>exact decide_eq_false fun h=>by have:=this.2 h;rw [hv] at this;cases this
 have e3:decide (l.map lowB=l)=!(l.any fun c=>decide (lowB c≠c)):=by
  have:=map_low_eq l
  cases hv:(l.any fun c=>decide (lowB c≠c)) with
  | false=>exact decide_eq_true (this.2 hv)
  | true=>exact decide_eq_false fun h=>by have:=this.1 h;rw [hv] at this;cases this
 rw [e2,e3]
 cases (l.any fun c=>spL.contains c) <;> cases (l.any fun c=>decide (lowB c≠c)) <;> cases decide (l≠[]) <;> cases Lib.validD l <;> rfl
theorem indexByte_any (c:UInt8):∀l:List UInt8,decide (Lib.indexByte l c < 0)=!(l.any fun b=>b == c)
 | []=>rfl
 | b :: l=>by
  have ih:=indexByte_any c l
  have hge:=Lib.indexByte_ge l c
  unfold Lib.indexByte
  rw [List.any_cons]
  by_cases h:(b == c)=true
  ·rw [if_pos h,h];rfl
  ·have h':(b == c)=false:=by simpa using h
   rw [if_neg h,h',Bool.false_or,← ih]
   by_cases h2:(Lib.indexByte l c == -1)=true
   ·rw [if_pos h2]
    have:Lib.indexByte l c=-1:=by simpa using h2
    rw [this]
   ·rw [if_neg h2]
    have:Lib.indexByte l c≠-1:=by simpa using h2
    rw [decide_eq_false (by omega),decide_eq_false (by omega)]
theorem header_any (l:List UInt8)(hl:l.length≤1000000)(w:World):Calls Tryz.prog 91 #[.string ⟨l.toArray⟩] w fun e w'=>e=.returned (.bool (headB l))∧Below w.heap.size w w':=by
 have hsz:=bsz l
 have HAt:=Lib.hid (fun wx=>attribute_any l hl wx)
 rw [atR_eq] at HAt
 have HG:=Lib.hid (fun(i:Nat) (hi:i < l.length)=>(show ∃h:i < (⟨l.toArray⟩:ByteArray).size,l[i]? = some ((⟨l.toArray⟩:ByteArray)[i]'h) from⟨by rw [hsz];exact hi,Lib.data_getElem? ⟨l.toArray⟩ i (by rw [hsz];exact hi)⟩))
 have HD:=Lib.hid (fun i h b hb hp=>any_drop l (fun c=>c == 61) i h b hb hp)
 have hresE:headB l=(!((l.drop 1).any fun c=>c == 61) && okA l):=by
  unfold headB
  rw [indexByte_any,Bool.and_comm]
 have HResE:=Lib.hid hresE
 generalize hs:(⟨l.toArray⟩:ByteArray)=s at *
 clear hresE
 go_enter Tryz.func91,Tryz.ntmps91
 go_wp2_with fail
 go_loopw [3] (fun iv wr=>∃i:Nat,1≤i∧iv=.int .i64 (i:Int)∧((l.drop 1).any fun c=>c == 61)=((l.drop i).any fun c=>c == 61)∧wr=w) (fun iv _=>l.length - intN iv)
 case atStart=>exact⟨1,by omega,rfl,rfl,rfl⟩
 case round =>
  obtain⟨i,hi,rfl,hany,rfl⟩:=hrel
  have HA:=Lib.hid hany
  clear hany
  by_cases hlt:i < l.length
  ·obtain⟨hi2,hget⟩:=HG.out i hlt
   have hlt2:(i:Int) < (s.size:Int):=by omega
   have hdr:l.drop i=(s[i]'hi2) :: l.drop (i+1):=by
    rw [List.drop_eq_getElem_cons hlt]
    congr 1
    exact(List.getElem?_eq_some_iff.1 hget).2
   by_cases h61:(s[i]'hi2).toNat=61
   ·have e61:((((s[i]'hi2).toNat:Nat):Int) == 61)=true:=by simp;omega
    have hres:headB l=false:=by
     rw [HResE.out,HA.out,hdr,List.any_cons]
     have:((s[i]'hi2) == 61)=true:=by
      have:s[i]'hi2=61:=UInt8.toNat_inj.1 h61
      rw [this];rfl
     rw [this];simp
    have HRes:=Lib.hid hres
    clear hres hdr hget h61
    go_wp2_with fail
    go_ret
    exact⟨by rw [HRes.out];rfl,Below.refl _ _⟩
   ·have e61:((((s[i]'hi2).toNat:Nat):Int) == 61)=false:=by simp;omega
    have hstep:((l.drop 1).any fun c=>c == 61)=((l.drop (i+1)).any fun c=>c == 61):=by
     rw [HA.out,hdr,List.any_cons]
     have:((s[i]'hi2) == 61)=false:=by
      rw [beq_eq_false_iff_ne]
      intro e
      exact h61 (by rw [e];rfl)
     rw [this,Bool.false_or]
    have HN:=Lib.hid hstep
    clear hstep hdr hget h61
    go_wp2_with fail
    exact⟨⟨i+1,by omega,by first | rfl | simp,HN.out,by trivial⟩,by simp only [intN];omega⟩
  ·have hlt2:¬(i:Int) < (s.size:Int):=by omega
   have hres:headB l=okA l:=by
    rw [HResE.out,HA.out,List.drop_eq_nil_of_le (by omega)]
    simp
   have HRes:=Lib.hid hres
   clear hres
   go_wp2_with fail
   refine(HAt.out _).mono ?_
   rintro e w2 ⟨rfl,hb2⟩
   go_wp2_with fail
   go_ret
   exact⟨by rw [HRes.out];rfl,hb2⟩
theorem element_any (l:List UInt8)(hl:l.length≤1000000)(w:World):Calls Tryz.prog 90 #[.string ⟨l.toArray⟩] w fun e w'=>e=.returned (.bool (elmB l))∧Below w.heap.size w w':=by
 unfold elmB
 by_cases hn:l=[]
 ·subst hn
  go_enter Tryz.func90,Tryz.ntmps90
  go_wp2_with fail
  go_ret
  exact⟨rfl,Below.refl _ _⟩
 ·have hsz:=bsz l
  have hl0:1≤l.length:=by cases l with | nil=>exact absurd rfl hn | cons a t=>simp
  have h0:0 < (⟨l.toArray⟩:ByteArray).size:=by rw [hsz];omega
  have hg:=getD_zero l h0
  have HAt:=Lib.hid (fun wx=>attribute_any l hl wx)
  rw [atR_eq] at HAt
  obtain⟨hne,hne3,hne4⟩:=neq_nil l hn
  generalize hs:(⟨l.toArray⟩:ByteArray)=s at *
  clear hs
  generalize okA l=bo at *
  rw [← hg]
  clear hg
  by_cases c0:97≤(s[0]'h0).toNat
  ·have d0:decide ((97:Int)≤((s[0]'h0).toNat:Int))=true:=by simp;omega
   rw [decide_eq_true c0]
   by_cases c1:(s[0]'h0).toNat≤122
   ·have d1:decide (((s[0]'h0).toNat:Int)≤122)=true:=by simp;omega
    rw [decide_eq_true c1]
    go_enter Tryz.func90,Tryz.ntmps90
    go_wp2_with fail
    refine(HAt.out _).mono ?_
    rintro e w1 ⟨rfl,hb1⟩
    go_wp2_with fail
    go_ret
    exact⟨by simp,hb1⟩
   ·have d1:decide (((s[0]'h0).toNat:Int)≤122)=false:=by simp;omega
    rw [decide_eq_false c1]
    go_enter Tryz.func90,Tryz.ntmps90
    go_wp2_with fail
    go_ret
    exact⟨by simp,Below.refl _ _⟩
  ·have d0:decide ((97:Int)≤((s[0]'h0).toNat:Int))=false:=by simp;omega
   rw [decide_eq_false c0]
   go_enter Tryz.func90,Tryz.ntmps90
   go_wp2_with fail
   go_ret
   exact⟨by simp,Below.refl _ _⟩
end Go.Proofs.YtfelmdkeaacfeaaGreatDoor.W
end
