/- Texts joined: Ali RszP Mem Salt. -/
import Derived.Test.YtfelmdkeaacfeaaGreatDoorProg
import Derived.Below
import Derived.Calls
import Derived.CallsIn
import Derived.ChangeArms
import Derived.Deep.Quiet
import Derived.Deep.Slices
import Derived.IntWalk
import Derived.Laws.AppendOwn
import Derived.Laws.IdiomStrings
import Derived.Laws.RangeString
import Derived.Laws.Rows
import Derived.Laws.Runes
import Derived.Laws.Sem
import Derived.Laws.Strings
import Derived.Laws.World
import Derived.Lib.Builder
import Derived.Lib.DecodeN
import Derived.Lib.Hide
import Derived.Lib.IndexBytes
import Derived.Lib.MapLaws
import Derived.Lib.OthersKept
import Derived.Lib.TrimU
import Derived.Lib.UnsafeStr
import Derived.Maps.AppendAt
import Derived.OneCell
import Derived.Orders
import Derived.OwnWalk
import Derived.RangeFuncLeaves
import Derived.RangeFuncOwn
import Derived.RangeFuncRecord
import Derived.StringKeys
import Derived.Tactics
import Derived.WideShapes
import GoSem.Core.Value
import Derived.Lib.ValidLaws
import Derived.Lib.RuneBytes
import Derived.WalkKit
import Derived.BigQuiet
import Derived.WalkSmall
import Derived.Test.YtfelmdkeaacfeaaGreatDoorRows
set_option maxRecDepth 100000
set_option maxHeartbeats 40000000
set_option linter.unusedVariables false
set_option linter.unusedSimpArgs false
section
namespace Go.Proofs.YtfelmdkeaacfeaaGreatDoor.W
theorem dL {α : Type} {l : List α} {i : Nat} {a : α} : l.toArray.setIfInBounds i a = (l.set i a).toArray := List.setIfInBounds_toArray ..
theorem dK {α : Type} {x : α} {l : List α} {a : α} : (x :: l).set 0 a = a :: l := List.set_cons_zero
theorem dJ {α : Type} {x : α} {l : List α} {i : Nat} {a : α} : (x :: l).set (i + 1) a = x :: l.set i a := List.set_cons_succ
theorem fQ {α : Type} {a : α} {i : Nat} {l : List α} : (a :: l)[i + 1]? = l[i]? := List.getElem?_cons_succ
theorem fP {α : Type} {a : α} {l : List α} : (a :: l)[0]? = some a := List.getElem?_cons_zero
theorem mD {α : Type} {a : α} {l : List α} {i : Nat} : (a :: l).take (i + 1) = a :: l.take i := List.take_succ_cons
theorem mr {α : Type} {l : List α} : l.take 0 = [] := List.take_zero
theorem l9 {α : Type} {a : α} {l : List α} {i : Nat} : (a :: l).drop (i + 1) = l.drop i := List.drop_succ_cons
theorem lZ {α : Type} {l : List α} : l.drop 0 = l := List.drop_zero
set_option linter.defProp false
def XB:=@Array.any_eq_true'
def X9:=@Array.getElem?_eq_getElem
def eU:=@Array.getElem?_eq_none
def aX:=@Array.getElem?_eq_some_iff
def iL:=@Array.mk.injEq
def ji:=@Array.replicate_succ
def jG:=@Array.setIfInBounds_comm
def Xl:=@Array.toList_extract
def XP:=@Array.toList_inj
def aH:=@Bool.and_eq_true
def Xv:=@Bool.and_false
def Ye:=@Bool.and_self
def uM:=@Bool.false_and
def iV:=@Bool.false_eq_true
def iE:=@Bool.false_or
def WX:=@Bool.not_true
def Yj:=@Bool.or_eq_false_iff
def xQ:=@Bool.or_eq_true
def WW:=@Bool.or_false
def wY:=@Bool.true_and
def Xc:=@ByteArray.data_extract
def XA:=@ByteArray.ext
def wE:=@Go.Act.put_comm
def yK:=@Go.Addr.mk.injEq
def oh:=@Go.ByteArray.toList_mk
def Yi:=@Go.Calls.mono
def vz:=@Go.DataW.trod_int
def o9:=@Go.Deep.add_add
def XU:=@Go.IntWalk.wrap64_in
def rq:=@Go.KeepsOthers.setCell
def XC:=@Go.Lib.OthersKept.refl
def xm:=@Go.Lib.below_iterAt
def Xx:=@Go.Lib.byteCells_append
def iQ:=@Go.Lib.cell_of_heap
def Xa:=@Go.Lib.data_getElem?
def Yf:=@Go.Lib.decodeL_le
def XT:=@Go.Lib.decodeL_width
def yJ:=@Go.Lib.decode_at
def kG:=@Go.Lib.frozen_of_heap
def ae:=@Go.Lib.hid
def Ad:=@Go.Lib.iterAt_heap
def Ac:=@Go.Lib.run_next_any_at
def Aa:=@Go.Lib.run_next_end_at
def Xu:=@Go.Oper.apart_spec
def Xe:=@Go.Region.free_spec
def xP:=@Go.Region.noSelect_spec
def BK:=@Go.RowKit.Below.alloc
def dW:=@Go.RowKit.Below.cell
def XD:=@Go.RowKit.Below.heap_alloc
def aF:=@Go.RowKit.Below.heap_setCell
def ak:=@Go.RowKit.Below.refl
def jw:=@Go.RowKit.Below.trans
def WU:=@Go.Sem.run_bind
def iq:=@Go.Value.int.injEq
def bD:=@Go.Value.slice.injEq
def gy:=@Go.Value.tuple.injEq
def Yg:=@Go.WideMaps.keyOf_string_mk
def aP:=@Go.WideShapes.add_plain
def iG:=@Go.World.block_lt_of_cell?
def fF:=@Go.World.cell?_alloc_lt
def Xt:=@Go.World.iter_heap
def aG:=@Go.World.ownsRow_nil
def kV:=@Go.World.putObj_heap_other
def nZ:=@Go.bodyPost_ret
def XL:=@Go.callsIn_of_wp
def zZ:=@Go.callsIn_of_wp_marks
def jP:=@Go.callsIn_wide
def WQ:=@Go.execOp_put
def iY:=@Go.getD_set_ne
def WY:=@Go.info_parts
def gp:=@Go.lt_of_block
def jD:=@Go.mem_ready
def oN:=@Go.ready_mono
def Xd:=@Go.results_cell_row
def ve:=@Go.run_append_own_at
def Yk:=@Go.run_convert_bytes_back
def WO:=@Go.wanted_put
def qo:=@Go.wpList_append_own
def az:=@Go.wpQuiet_nil
def XI:=@Go.wp_region_any
def XR:=@Go.wrap_small
def CZ:=@Int.eq_ofNat_of_zero_le
def wC:=@List.Pairwise.filter
def Xg:=@List.Perm.append_left
def dY:=@List.Perm.append_right
def XH:=@List.Sublist.refl
def dX:=@List.all_eq_true
def XG:=@List.any_eq_false
def WZ:=@List.any_eq_true
def bu:=@List.append_assoc
def CY:=@List.append_cancel_left
def aT:=@List.append_nil
def jE:=@List.append_toArray
def fG:=@List.cons.injEq
def Yh:=@List.dropLast_sublist
def qB:=@List.drop_drop
def qA:=@List.drop_eq_getElem_cons
def fK:=@List.drop_eq_nil_of_le
def XX:=@List.drop_left'
def vw:=@List.drop_length
def XN:=@List.eq_nil_iff_forall_not_mem
def dh:=@List.eq_nil_of_length_eq_zero
def jU:=@List.eraseIdx_eq_take_drop_succ
def lT:=@List.eraseIdx_sublist
def gu:=@List.ext_getElem?
def X8:=@List.findIdx?_eq_none_iff
def rW:=@List.findIdx?_eq_some_iff_getElem
def jT:=@List.flatMap_append
def eG:=@List.flatMap_cons
def nR:=@List.flatten_append
def dV:=@List.getD_eq_getElem?_getD
def di:=@List.getElem?_append_left
def bZ:=@List.getElem?_append_right
def oM:=@List.getElem?_drop
def ay:=@List.getElem?_eq_getElem
def bQ:=@List.getElem?_eq_none
def qy:=@List.getElem?_eq_none_iff
def ai:=@List.getElem?_eq_some_iff
def iK:=@List.getElem?_inj
def bI:=@List.getElem?_map
def dB:=@List.getElem?_mapIdx
def dH:=@List.getElem?_set
def jM:=@List.getElem?_set_ne
def iR:=@List.getElem?_set_self
def eX:=@List.getElem?_take
def qw:=@List.getLast?_eq_getElem?
def X5:=@List.getLast?_eq_none_iff
def XZ:=@List.getLast?_eq_some_iff
def XW:=@List.idxOf_lt_length_of_mem
def aA:=@List.length_append
def aS:=@List.length_drop
def nO:=@List.length_eq_zero_iff
def Xk:=@List.length_eraseIdx
def gU:=@List.length_filter_le
def bM:=@List.length_map
def gQ:=@List.length_mapIdx
def gz:=@List.length_pos_iff
def dI:=@List.length_set
def fC:=@List.length_take
def ig:=@List.map_append
def fM:=@List.map_congr_left
def fE:=@List.map_cons
def Yd:=@List.map_drop
def nK:=@List.map_map
def jZ:=@List.map_nil
def Yc:=@List.map_take
def vk:=@List.map_toArray
def cZ:=@List.mem_append
def qj:=@List.mem_append_left
def uV:=@List.mem_append_right
def bn:=@List.mem_cons
def gX:=@List.mem_cons_of_mem
def Xz:=@List.mem_cons_self
def nJ:=@List.mem_eraseIdx_iff_getElem?
def rV:=@List.mem_filter
def bT:=@List.mem_flatMap
def aI:=@List.mem_iff_getElem?
def bC:=@List.mem_map
def ah:=@List.mem_of_getElem?
def wB:=@List.mem_of_getLast?
def kF:=@List.mem_of_mem_drop
def Ya:=@List.mem_of_mem_eraseIdx
def kE:=@List.mem_of_mem_take
def qp:=@List.mem_or_eq_of_mem_set
def iw:=@List.mem_range
def eF:=@List.mem_singleton
def jf:=@List.nodup_append
def o8:=@List.nodup_cons
def XY:=@List.nodup_iff_pairwise_ne
def uK:=@List.nodup_nil
def iH:=@List.not_mem_nil
def Xj:=@List.pairwise_append
def lS:=@List.pairwise_cons
def XF:=@List.pairwise_map
def lQ:=@List.perm_append_comm
def jS:=@List.push_toArray
def Xi:=@List.set_append_left
def uU:=@List.set_append_right
def gZ:=@List.size_toArray
def Xb:=@List.sublist_cons_self
def fJ:=@List.take_add_one
def bG:=@List.take_append_drop
def XO:=@List.take_append_of_le_length
def XV:=@List.take_left'
def dE:=@List.take_length
def sZ:=@List.take_of_length_le
def Yl:=@List.take_set_of_le
def WS:=@List.take_take
def gK:=@List.toArray_inj
def lN:=@Nat.add_assoc
def oZ:=@Nat.add_comm
def rU:=@Nat.add_sub_cancel_left
def Xf:=@Nat.le_of_lt
def au:=@Nat.le_refl
def ed:=@Nat.le_succ
def aQ:=@Nat.le_trans
def aO:=@Nat.lt_of_lt_of_le
def jq:=@Nat.lt_or_ge
def rQ:=@Nat.min_eq_left
def jr:=@Nat.mod_lt
def uT:=@Nat.mul_comm
def WR:=@Nat.mul_le_mul
def Xh:=@Nat.mul_le_mul_right
def jY:=@Nat.sub_self
def XM:=@Nat.succ_mul
def aJ:=@Nat.zero_add
def aZ:=@Nat.zero_le
def uS:=@Nat.zero_mul
def WV:=@Ne.symm
def aB:=@Option.isSome_iff_exists
def XE:=@Option.isSome_map
def bJ:=@Option.map_eq_some_iff
def cO:=@Option.some.inj
def mY:=@Option.some.injEq
def Xy:=@UInt8.toNat_ofNat'
def jX:=@and_true
def eY:=@beq_eq_false_iff_ne
def WT:=@beq_iff_eq
def bW:=@congrArg
def eP:=@decide_eq_false
def Yb:=@decide_eq_false_iff_not
def dZ:=@decide_eq_true
def dG:=@decide_eq_true_eq
def zY:=@decide_eq_true_iff
def Xw:=@decide_true
def uQ:=@false_and
def XK:=@getElem!_neg
def XJ:=@getElem!_pos
def iJ:=@if_false
def ax:=@if_neg
def aC:=@if_pos
def oW:=@if_true
def tq:=@of_decide_eq_true
def rP:=@or_false
def je:=@true_and
end Go.Proofs.YtfelmdkeaacfeaaGreatDoor.W
end
section
namespace Go.Proofs.YtfelmdkeaacfeaaGreatDoor.W
open Go.RowKit
def kS (l:List UInt8):Nat:=if l=[] then 0 else if(Lib.decodeL l).1=65533∧(Lib.decodeL l).2=1 then 0 else(Lib.decodeL l).2
def lu (n i b lo hi:Nat):Bool:=decide (i < n) && (decide (lo≤b) && decide (b≤hi))
def tJ (n b0 b1:Nat):Bool:=if b0=224 then lu n 1 b1 160 191 else if b0=237 then lu n 1 b1 128 159 else if b0=240 then lu n 1 b1 144 191 else if b0=244 then lu n 1 b1 128 143 else lu n 1 b1 128 191
def IJ (n b0 b1 b2 b3:Nat):Nat :=
 if lu n 0 b0 0 127=true then 1
 else if(lu n 0 b0 194 223 && lu n 1 b1 128 191)=true then 2
 else if(lu n 0 b0 224 239 && tJ n b0 b1 && lu n 2 b2 128 191)=true then 3
 else if(lu n 0 b0 240 244 && tJ n b0 b1 && (lu n 2 b2 128 191 && lu n 3 b3 128 191))=true then 4
 else 0
theorem VK (n b1 b2 b3 lo hi:Nat):Lib.checkN n b1 b2 b3 2 lo hi=if n < 2∨b1 < lo∨hi < b1 then none else some 2:=by unfold Lib.checkN;rw [aC rfl]
theorem SG (n b1 b2 b3 lo hi:Nat):Lib.checkN n b1 b2 b3 3 lo hi=if n < 3∨b1 < lo∨hi < b1∨b2 < 128∨191 < b2 then none else some 3:=by unfold Lib.checkN;rw [ax (by omega),aC rfl]
theorem UJ (n b1 b2 b3 lo hi:Nat):Lib.checkN n b1 b2 b3 4 lo hi=if n < 4∨b1 < lo∨hi < b1∨b2 < 128∨191 < b2∨b3 < 128∨191 < b3 then none else some 4:=by unfold Lib.checkN;rw [ax (by omega),ax (by omega),aC rfl]
theorem Kr (n b0 b1 b2 b3:Nat)(hn:1≤n)(h0:b0 < 256)(h1:b1 < 256)(h2:b2 < 256)(h3:b3 < 256) :
  IJ n b0 b1 b2 b3=if(Lib.decodeN n b0 b1 b2 b3).1=65533∧(Lib.decodeN n b0 b1 b2 b3).2=1 then 0 else(Lib.decodeN n b0 b1 b2 b3).2:=by
 by_cases hlo:b0 < 128
 ·have e:Lib.decodeN n b0 b1 b2 b3=(b0,1):=by unfold Lib.decodeN;rw [aC hlo]
  rw [e,ax (by simp;omega)]
  unfold IJ lu
  rw [aC (by simp;omega)]
 have key:∀sz lo hi,Lib.firstT b0 % 8=sz→Lib.accLo (Lib.firstT b0 / 16)=lo→Lib.accHi (Lib.firstT b0 / 16)=hi→IJ n b0 b1 b2 b3=(match Lib.checkN n b1 b2 b3 sz lo hi with | none=>0 | some k=>k) →
   IJ n b0 b1 b2 b3=if(Lib.decodeN n b0 b1 b2 b3).1=65533∧(Lib.decodeN n b0 b1 b2 b3).2=1 then 0 else(Lib.decodeN n b0 b1 b2 b3).2:=by
  intro sz lo hi e1 e2 e3 e
  rcases Lib.check_decode n b0 b1 b2 b3 hn (by omega) h0 h1 h2 h3 with ⟨hc,hd⟩ | ⟨k,hk,hc,hd⟩
  ·rw [e1,e2,e3] at hc
   rw [e,hc,hd]
   rfl
  ·rw [e1,e2,e3] at hc
   rw [e,hc,hd,ax (by omega)]
 by_cases c0:b0 < 194
 ·refine key 1 0 0 (by simp [Lib.firstT,hlo,c0]) (by simp [Lib.firstT,Lib.accLo,hlo,c0]) (by simp [Lib.firstT,Lib.accHi,hlo,c0]) ?_
  unfold IJ lu tJ Lib.checkN
  simp only [aH,dG]
  rw [ax (by omega),ax (by omega),ax (by omega),ax (by omega)]
  rfl
 by_cases c1:b0 < 224
 ·refine key 2 128 191 (by simp [Lib.firstT,hlo,c0,c1]) (by simp [Lib.firstT,Lib.accLo,hlo,c0,c1]) (by simp [Lib.firstT,Lib.accHi,hlo,c0,c1]) ?_
  rw [VK]
  unfold IJ lu tJ
  simp only [aH,dG]
  rw [ax (by omega)]
  by_cases q:n < 2∨b1 < 128∨191 < b1
  ·rw [aC q,ax (by omega),ax (by omega),ax (by omega)]
  ·rw [ax q,aC (by omega)]
 by_cases c2:b0=224
 ·refine key 3 160 191 (by rw [c2];decide) (by rw [c2];decide) (by rw [c2];decide) ?_
  rw [SG]
  unfold IJ tJ
  rw [aC c2]
  unfold lu
  simp only [aH,dG]
  rw [ax (by omega),ax (by omega)]
  by_cases q:n < 3∨b1 < 160∨191 < b1∨b2 < 128∨191 < b2
  ·rw [aC q,ax (by omega),ax (by omega)]
  ·rw [ax q,aC (by omega)]
 by_cases c3:b0 < 237
 ·refine key 3 128 191 (by simp [Lib.firstT,hlo,c0,c1,c2,c3]) (by simp [Lib.firstT,Lib.accLo,hlo,c0,c1,c2,c3]) (by simp [Lib.firstT,Lib.accHi,hlo,c0,c1,c2,c3]) ?_
  rw [SG]
  unfold IJ tJ
  rw [ax (show ¬b0=224 by omega),ax (show ¬b0=237 by omega),ax (show ¬b0=240 by omega),ax (show ¬b0=244 by omega)]
  unfold lu
  simp only [aH,dG]
  rw [ax (by omega),ax (by omega)]
  by_cases q:n < 3∨b1 < 128∨191 < b1∨b2 < 128∨191 < b2
  ·rw [aC q,ax (by omega),ax (by omega)]
  ·rw [ax q,aC (by omega)]
 by_cases c4:b0=237
 ·refine key 3 128 159 (by rw [c4];decide) (by rw [c4];decide) (by rw [c4];decide) ?_
  rw [SG]
  unfold IJ tJ
  rw [ax (show ¬b0=224 by omega),aC c4]
  unfold lu
  simp only [aH,dG]
  rw [ax (by omega),ax (by omega)]
  by_cases q:n < 3∨b1 < 128∨159 < b1∨b2 < 128∨191 < b2
  ·rw [aC q,ax (by omega),ax (by omega)]
  ·rw [ax q,aC (by omega)]
 by_cases c5:b0 < 240
 ·refine key 3 128 191 (by simp [Lib.firstT,hlo,c0,c1,c2,c3,c4,c5]) (by simp [Lib.firstT,Lib.accLo,hlo,c0,c1,c2,c3,c4,c5]) (by simp [Lib.firstT,Lib.accHi,hlo,c0,c1,c2,c3,c4,c5]) ?_
  rw [SG]
  unfold IJ tJ
  rw [ax (show ¬b0=224 by omega),ax (show ¬b0=237 by omega),ax (show ¬b0=240 by omega),ax (show ¬b0=244 by omega)]
  unfold lu
  simp only [aH,dG]
  rw [ax (by omega),ax (by omega)]
  by_cases q:n < 3∨b1 < 128∨191 < b1∨b2 < 128∨191 < b2
  ·rw [aC q,ax (by omega),ax (by omega)]
  ·rw [ax q,aC (by omega)]
 by_cases c6:b0=240
 ·refine key 4 144 191 (by rw [c6];decide) (by rw [c6];decide) (by rw [c6];decide) ?_
  rw [UJ]
  unfold IJ tJ
  rw [ax (show ¬b0=224 by omega),ax (show ¬b0=237 by omega),aC c6]
  unfold lu
  simp only [aH,dG]
  rw [ax (by omega),ax (by omega),ax (by omega)]
  by_cases q:n < 4∨b1 < 144∨191 < b1∨b2 < 128∨191 < b2∨b3 < 128∨191 < b3
  ·rw [aC q,ax (by omega)]
  ·rw [ax q,aC (by omega)]
 by_cases c7:b0 < 244
 ·refine key 4 128 191 (by simp [Lib.firstT,hlo,c0,c1,c2,c3,c4,c5,c6,c7]) (by simp [Lib.firstT,Lib.accLo,hlo,c0,c1,c2,c3,c4,c5,c6,c7]) (by simp [Lib.firstT,Lib.accHi,hlo,c0,c1,c2,c3,c4,c5,c6,c7]) ?_
  rw [UJ]
  unfold IJ tJ
  rw [ax (show ¬b0=224 by omega),ax (show ¬b0=237 by omega),ax (show ¬b0=240 by omega),ax (show ¬b0=244 by omega)]
  unfold lu
  simp only [aH,dG]
  rw [ax (by omega),ax (by omega),ax (by omega)]
  by_cases q:n < 4∨b1 < 128∨191 < b1∨b2 < 128∨191 < b2∨b3 < 128∨191 < b3
  ·rw [aC q,ax (by omega)]
  ·rw [ax q,aC (by omega)]
 by_cases c8:b0=244
 ·refine key 4 128 143 (by rw [c8];decide) (by rw [c8];decide) (by rw [c8];decide) ?_
  rw [UJ]
  unfold IJ tJ
  rw [ax (show ¬b0=224 by omega),ax (show ¬b0=237 by omega),ax (show ¬b0=240 by omega),aC c8]
  unfold lu
  simp only [aH,dG]
  rw [ax (by omega),ax (by omega),ax (by omega)]
  by_cases q:n < 4∨b1 < 128∨143 < b1∨b2 < 128∨191 < b2∨b3 < 128∨191 < b3
  ·rw [aC q,ax (by omega)]
  ·rw [ax q,aC (by omega)]
 ·rw [Lib.decodeN_bad n b0 b1 b2 b3 (.inr ⟨by omega,h0⟩),aC ⟨rfl,rfl⟩]
  unfold IJ lu tJ
  simp only [aH,dG]
  rw [ax (by omega),ax (by omega),ax (by omega),ax (by omega)]
theorem Pv (l:List UInt8)(hne:l≠[]):kS l=IJ l.length (l.getD 0 0).toNat (l.getD 1 0).toNat (l.getD 2 0).toNat (l.getD 3 0).toNat:=by
 have hl:0 < l.length:=gz.2 hne
 rw [Kr _ _ _ _ _ hl (l.getD 0 0).toNat_lt (l.getD 1 0).toNat_lt (l.getD 2 0).toNat_lt (l.getD 3 0).toNat_lt,← Lib.decodeL_N]
 unfold kS
 rw [ax hne]
theorem Gy (l:List UInt8):kS l≤l.length:=by
 unfold kS
 split
 ·omega
 ·split
  ·omega
  ·exact Yf l (by assumption)
def yV:Nat→List UInt8→List UInt8
 | 0,_=>[]
 | f+1,l=>if l=[] then [] else if kS l=0 then [239,191,189] ++ yV f (l.drop 1) else l.take (kS l) ++ yV f (l.drop (kS l))
def ik (l:List UInt8):List UInt8:=yV l.length l
theorem tV:∀(n m:Nat) (l:List UInt8),l.length≤n→l.length≤m→yV n l=yV m l
 | 0,m,l,hn,_=>by
  have:l=[]:=dh (by omega)
  subst this
  cases m <;> simp [yV]
 | n+1,0,l,_,hm=>by
  have:l=[]:=dh (by omega)
  subst this
  simp [yV]
 | n+1,m+1,l,hn,hm=>by
  unfold yV
  by_cases hne:l=[]
  ·simp [hne]
  ·have hl:0 < l.length:=gz.2 hne
   rw [ax hne,ax hne,tV n m (l.drop 1) (by rw [aS];omega) (by rw [aS];omega)]
   by_cases h0:kS l=0
   ·rw [aC h0,aC h0]
   ·rw [ax h0,ax h0,tV n m (l.drop (kS l)) (by rw [aS];omega) (by rw [aS];omega)]
theorem yU:ik []=[]:=rfl
theorem kT (l:List UInt8)(hne:l≠[]):ik l=if kS l=0 then [239,191,189] ++ ik (l.drop 1) else l.take (kS l) ++ ik (l.drop (kS l)):=by
 have hl:0 < l.length:=gz.2 hne
 obtain⟨n,hn⟩:∃n,l.length=n+1:=⟨l.length - 1,by omega⟩
 show yV l.length l=_
 rw [hn]
 show(if l=[] then [] else _)=_
 rw [ax hne]
 by_cases h0:kS l=0
 ·rw [aC h0,aC h0]
  unfold ik
  rw [tV n (l.drop 1).length _ (by rw [aS];omega) (au _)]
 ·rw [ax h0,ax h0]
  unfold ik
  rw [tV n (l.drop (kS l)).length _ (by rw [aS];omega) (au _)]
theorem tN:∀(n:Nat) (l:List UInt8),l.length≤n→(Lib.validD l=true↔ik l=l)∧l.length≤(ik l).length
 | 0,l,h=>by
  have:l=[]:=dh (by omega)
  subst this
  exact⟨⟨fun _=>rfl,fun _=>rfl⟩,au _⟩
 | n+1,l,h=>by
  by_cases hne:l=[]
  ·subst hne
   exact⟨⟨fun _=>rfl,fun _=>rfl⟩,au _⟩
  ·have hl:0 < l.length:=gz.2 hne
   have hw:=XT l
   rw [Lib.validD_step l hne,kT l hne]
   by_cases hb:(Lib.decodeL l).1=65533∧(Lib.decodeL l).2=1
   ·have e0:kS l=0:=by unfold kS;rw [ax hne,aC hb]
    have ih:=tN n (l.drop 1) (by rw [aS];omega)
    rw [aC hb,aC e0]
    have hlen:l.length < ([239,191,189] ++ ik (l.drop 1)).length:=by
     have:=ih.2
     rw [aS] at this
     rw [aA,List.length_cons,List.length_cons,List.length_cons,List.length_nil]
     omega
    refine⟨⟨fun e=>absurd e (by simp),fun e=>?_⟩,Xf hlen⟩
    rw [e] at hlen
    omega
   ·have e0:kS l=(Lib.decodeL l).2:=by unfold kS;rw [ax hne,ax hb]
    have hle:=Yf l hne
    have ih:=tN n (l.drop (kS l)) (by rw [aS];omega)
    rw [ax hb,← e0,ax (by omega),ih.1]
    refine⟨⟨fun e=>?_,fun e=>?_⟩,?_⟩
    ·rw [e,bG]
    ·have e2:l.take (kS l) ++ ik (l.drop (kS l))=l.take (kS l) ++ l.drop (kS l):=e.trans (bG _ _).symm
     exact CY e2
    ·have:=ih.2
     rw [aA,fC]
     rw [aS] at this
     omega
theorem vH (l:List UInt8):Lib.validD l=true↔ik l=l:=(tN l.length l (au _)).1
theorem Bq (l:List UInt8):l.length≤(ik l).length:=(tN l.length l (au _)).2
theorem DD (n:Nat):∀(l:List UInt8),l.length≤n→(ik l).length≤3*l.length:=by
 induction n with
 | zero =>
  intro l h
  have:l=[]:=dh (by omega)
  subst this
  simp [yU]
 | succ n ih =>
  intro l h
  by_cases hne:l=[]
  ·subst hne;simp [yU]
  ·have hl:0 < l.length:=gz.2 hne
   have hsz:=Gy l
   rw [kT l hne]
   split
   ·have:=ih (l.drop 1) (by rw [aS];omega)
    rw [aA,List.length_cons,List.length_cons,List.length_cons,List.length_nil]
    rw [aS] at this
    omega
   ·have:=ih (l.drop (kS l)) (by rw [aS];omega)
    rw [aA,fC]
    rw [aS] at this
    omega
structure dU (F:Nat→Prop) (w w':World):Prop where
 os:w'.os=w.os
 tape:w'.tape=w.tape
 output:w'.output=w.output
 size:w.heap.size≤w'.heap.size
 block:∀k,k < w.heap.size→¬F k→w'.heap[k]? = w.heap[k]?
theorem dU.refl (F:Nat→Prop)(w:World):dU F w w:=⟨rfl,rfl,rfl,au _,fun _ _ _=>rfl⟩
theorem dU.mono {F G:Nat→Prop}{w w':World}(h:dU F w w')(k:∀i,i < w.heap.size→F i→G i):dU G w w' :=
 ⟨h.os,h.tape,h.output,h.size,fun i hi hg=>h.block i hi (fun hf=>hg (k i hi hf))⟩
theorem dU.trans {F G : Nat → Prop} {a b c : World} (h : dU F a b) (k : dU G b c) (hG : ∀ i, i < a.heap.size → G i → F i) : dU F a c :=
  ⟨k.os.trans h.os, k.tape.trans h.tape, k.output.trans h.output, aQ h.size k.size,
   fun i hi hf => (k.block i (aO hi h.size) (fun hg => hf (hG i hi hg))).trans (h.block i hi hf)⟩
theorem dU.of_below {F:Nat→Prop}{w w':World}(h:Below w.heap.size w w'):dU F w w':=⟨h.os,h.tape,h.output,h.size,fun k hk _=>h.block k hk⟩
theorem dU.below {F:Nat→Prop}{B:Nat}{w w':World}(h:dU F w w')(hB:B≤w.heap.size)(hF:∀k,F k→B≤k):Below B w w' :=
 ⟨h.os,h.tape,h.output,h.size,fun k hk=>h.block k (by omega) (fun hf=>by have:=hF k hf;omega)⟩
theorem dU.drew {F:Nat→Prop}{a w:World}(h:dU F a w):dU F a w.drew:=⟨h.os,h.tape,h.output,h.size,h.block⟩
theorem dU.alloc {F:Nat→Prop}{a w:World}(h:dU F a w)(o:Obj):dU F a (w.alloc o) :=
 h.trans (G:=F) ⟨rfl,rfl,rfl,by simp,fun k hk _=>XD _ _ _ (by omega)⟩ (fun _ _ h=>h)
theorem dU.setCell {F:Nat→Prop}{a w:World}(h:dU F a w)(p:Addr)(hp:p.block < a.heap.size→F p.block)(u:Value):dU F a (w.setCell p u) :=
 h.trans (G:=fun k=>k=p.block) ⟨rfl,rfl,rfl,by simp [World.setCell],fun k _ hf=>aF _ _ _ _ hf⟩ (fun i hi e=>by subst e;exact hp hi)
theorem dU.grown {F:Nat→Prop}{a w w':World}{row:Option Nat}(h:dU F a w)(hg:w.grownBy w' row)(hr:∀k,row=some k→k < a.heap.size→F k):dU F a w' :=
 h.trans (G:=fun k=>row=some k) ⟨hg.os,hg.tape,hg.output,hg.size,fun k hk hf=>hg.block k hk (fun e=>hf e.symm)⟩ (fun i hi e=>hr i e hi)
theorem Below.drewN {B:Nat}{a w:World}(h:Below B a w)(n:Nat):Below B a (w.drewN n):=⟨h.os,h.tape,h.output,h.size,h.block⟩
theorem oK {W w1:World}(hb:Below W.heap.size W w1):(∀b o,b < W.heap.size→w1.cell? ⟨b,o,none⟩=W.cell? ⟨b,o,none⟩)∧(∀b o,b < W.heap.size→w1.frozen? ⟨b,o,none⟩=W.frozen? ⟨b,o,none⟩) :=
 ⟨fun b o h=>hb.cell (p:=⟨b,o,none⟩) h,fun b o h=>hb.frozen (p:=⟨b,o,none⟩) h⟩
theorem aV {W w1 w2:World}(h:Below W.heap.size W w1)(k:Below w1.heap.size w1 w2):Below W.heap.size W w2:=h.trans (k.mono h.size)
def dD (w:World)(g:Nat)(cs:List Value)(t:TypeId):Prop:=w.heap[g]? = some (.cells cs.toArray t (0,0))
theorem dD.lt {w:World}{g:Nat}{cs:List Value}{t:TypeId}(h:dD w g cs t):g < w.heap.size:=gp h
theorem dD.cell {w:World}{g:Nat}{cs:List Value}{t:TypeId}(h:dD w g cs t)(j:Nat):w.cell? ⟨g,j,none⟩=cs[j]?:=by
 unfold dD at h;simp [World.cell?,h]
theorem dD.free {w:World}{g:Nat}{cs:List Value}{t:TypeId}(h:dD w g cs t)(j:Nat):w.frozen? ⟨g,j,none⟩=false:=by
 unfold dD at h;simp [World.frozen?,h]
theorem dD.kept {w w':World}{g:Nat}{cs:List Value}{t:TypeId}(h:dD w g cs t)(e:w'.heap[g]? = w.heap[g]?):dD w' g cs t:=by
 unfold dD at *;rw [e];exact h
theorem dD.qU {F:Nat→Prop}{w w':World}{g:Nat}{cs:List Value}{t:TypeId}(h:dD w g cs t)(k:dU F w w')(hg:¬F g):dD w' g cs t :=
 h.kept (k.block g h.lt hg)
theorem dD.below {w w':World}{g:Nat}{cs:List Value}{t:TypeId}(h:dD w g cs t)(k:Below w.heap.size w w'):dD w' g cs t :=
 h.kept (k.block g h.lt)
theorem dD.set {w:World}{g:Nat}{cs:List Value}{t:TypeId}(h:dD w g cs t)(j:Nat)(u:Value):dD (w.setCell ⟨g,j,none⟩ u) g (cs.set j u) t:=by
 have hlt:=h.lt
 unfold dD at *
 have h':w.heap[g]=.cells cs.toArray t (0,0):=by simpa [X9 hlt] using h
 show(w.heap.modify g _)[g]? = _
 rw [X9 (by simpa using hlt),Array.getElem_modify_self,h']
 simp
theorem dD.setOther {w:World}{g:Nat}{cs:List Value}{t:TypeId}(h:dD w g cs t)(p:Addr)(hp:g≠p.block)(u:Value):dD (w.setCell p u) g cs t :=
 h.kept (aF _ _ _ _ hp)
theorem dD.new (w:World)(cs:List Value)(t:TypeId):dD (w.alloc (.cells cs.toArray t)) w.heap.size cs t:=heap_alloc_new w _
theorem dD.alloc {w:World}{g:Nat}{cs:List Value}{t:TypeId}(h:dD w g cs t)(o:Obj):dD (w.alloc o) g cs t:=h.kept (XD w o g h.lt)
abbrev Own (w:World) (e:TypeId) (size:Nat) (v:Value) (n:Nat) (xs:List Value):Prop:=w.ownsRow 0 e size v n xs
theorem aW {w:World}{e:TypeId}{size:Nat}{v:Value}{n:Nat}{xs:List Value}(h:Own w e size v n xs):∃a cap,v=.slice a n cap:=by
 rcases h.2 with ⟨rfl,rfl⟩ | ⟨g,cap,cur,rfl,_⟩
 ·exact⟨none,0,rfl⟩
 ·exact⟨_,_,rfl⟩
theorem sK {w:World}{e:TypeId}{size:Nat}{v:Value}{n:Nat}{xs:List Value}(h:Own w e size v n xs)(hn:0 < n):∃g cap,v=.slice (some ⟨g,0,none⟩) n cap∧n≤cap:=by
 rcases h.2 with ⟨rfl,rfl⟩ | ⟨g,cap,cur,rfl,_,_,hc,_⟩
 ·omega
 ·exact⟨_,_,rfl,hc⟩
theorem jy {w:World}{e:TypeId}{size:Nat}{v:Value}{n:Nat}{xs:List Value}(h:Own w e size v n xs){k:Nat}(hk:v.ownBlock=some k):k < w.heap.size:=(h.lt k hk).2
theorem iO {w w':World}{e:TypeId}{size:Nat}{v:Value}{n:Nat}{xs:List Value}(h:Own w e size v n xs)(k:∀g,v.ownBlock=some g→w'.heap[g]? = w.heap[g]?):Own w' e size v n xs:=by
 refine⟨h.1,?_⟩
 rcases h.2 with hn | ⟨g,cap,cur,rfl,hb,hgg,rest⟩
 ·exact .inl hn
 ·exact .inr ⟨g,cap,cur,rfl,hb,by rw [k g rfl];exact hgg,rest⟩
theorem MK {F:Nat→Prop}{w w':World}{e:TypeId}{size:Nat}{v:Value}{n:Nat}{xs:List Value}(h:Own w e size v n xs)(k:dU F w w')(hF:∀g,v.ownBlock=some g→¬F g):Own w' e size v n xs :=
 iO h fun g hg=>k.block g (jy h hg) (hF g hg)
theorem tZ {w:World}{e:TypeId}{size g n cap:Nat}{xs:List Value}(h:Own w e size (.slice (some ⟨g,0,none⟩) n cap) n xs)(j:Nat)(u:Value):Own (w.setCell ⟨g,j,none⟩ u) e size (.slice (some ⟨g,0,none⟩) n cap) n (xs.set j u):=(h.stored j u).1
theorem tY {w:World}{e:TypeId}{size n:Nat}{v:Value}{xs:List Value}(h:Own w e size v n xs)(p:Addr)(hp:v.ownBlock≠some p.block)(u:Value):Own (w.setCell p u) e size v n xs :=
 iO h fun g hg=>aF _ _ _ _ (by rintro rfl;exact hp hg)
theorem Rw {w:World}{e:TypeId}{size g n cap:Nat}{xs:List Value}(h:Own w e size (.slice (some ⟨g,0,none⟩) (n+1) cap) (n+1) xs):Own w e size (.slice (some ⟨g,0,none⟩) n cap) n (xs.take (n*size)):=by
 obtain⟨h1,h2⟩:=h
 refine⟨by rw [fC,h1];exact rQ (Xh _ (ed n)),?_⟩
 rcases h2 with ⟨h',_⟩ | ⟨g',cap',cur,h',hb,hg,hc,hm,hs,ht⟩
 ·simp at h'
 ·simp only [bD,mY,yK,jX,je] at h'
  obtain⟨rfl,rfl⟩:=h'
  refine .inr ⟨g,cap,cur,rfl,hb,hg,by omega,hm,hs,?_⟩
  rw [← ht,WS,rQ (Xh _ (ed n))]
def bnd (n:Int):Int:=min (max n 1) 1000
theorem qW (n:Int):1≤bnd n:=by unfold bnd;omega
theorem yz (n:Int):bnd n≤1000:=by unfold bnd;omega
theorem TE {n:Int}(h:n < 1):bnd n=1:=by unfold bnd;omega
theorem TD {n:Int}(h2:1000 < n):bnd n=1000:=by unfold bnd;omega
theorem TC {n:Int}(h:1≤n)(h2:n≤1000):bnd n=n:=by unfold bnd;omega
theorem Rl {k:IntKind}{a b:Int}(h:a=b):Ending.returned (.int k a)=.returned (.int k b):=by rw [h]
theorem DN (b s:Int)(w:World) :
  Calls Tryz.prog 130 #[.agg #[.int .i64 b,.int .i64 s]] w fun e w'=>e=.returned (.agg #[.int .i64 (bnd b),.int .i64 (bnd s)])∧Below w.heap.size w w':=by
 go_enter Tryz.func130,Tryz.ntmps130
 go_wp2
 all_goals
  refine nZ (v:=.agg #[.int .i64 (bnd b),.int .i64 (bnd s)]) ?_ rfl ⟨rfl,((ak _ _).alloc (au _) _).alloc (by simp) _⟩
  first
   | rw [TE (n:=b) ‹_›]
   | rw [TD (n:=b) ‹_›]
   | rw [TC (n:=b) ‹_› ‹_›]
  first
   | rw [TE (n:=s) ‹_›]
   | rw [TD (n:=s) ‹_›]
   | rw [TC (n:=s) ‹_› ‹_›]
  simp [results,Tryz.results130,go_sem]
def hdl (b s slot:Int):Int:=if slot < 0∨2147483647 < slot then 0 else bnd b+bnd s*slot
def idx (b s h:Int):Int:=if h < bnd b∨(h - bnd b) % bnd s≠0∨2147483647 < (h - bnd b) / bnd s then -1 else(h - bnd b) / bnd s
theorem AO {a b:Int}(ha:1≤a)(ha':a≤1000)(hb:0≤b)(hb':b≤2147483647):0≤a*b∧a*b≤2147483647000:=by
 refine⟨Int.mul_nonneg (by omega) hb,?_⟩
 have h1:a*b≤1000*b:=Int.mul_le_mul_of_nonneg_right ha' hb
 omega
theorem yh (b s slot:Int)(w:World) :
  Calls Tryz.prog 116 #[.agg #[.int .i64 b,.int .i64 s],.int .i64 slot] w fun e w'=>e=.returned (.int .i64 (hdl b s slot))∧Below w.heap.size w w':=by
 by_cases h0:slot < 0
 ·have e0:hdl b s slot=0:=by unfold hdl;rw [aC (.inl h0)]
  rw [e0]
  go_enter Tryz.func116,Tryz.ntmps116
  go_wp2
  go_ret
  exact⟨rfl,(ak _ _).alloc (au _) _⟩
 ·by_cases h1:2147483647 < slot
  ·have e0:hdl b s slot=0:=by unfold hdl;rw [aC (.inr h1)]
   rw [e0]
   go_enter Tryz.func116,Tryz.ntmps116
   go_wp2
   go_ret
   exact⟨rfl,(ak _ _).alloc (au _) _⟩
  ·have e0:hdl b s slot=bnd b+bnd s*slot:=by unfold hdl;rw [ax (by omega)]
   rw [e0];clear e0
   have b1:=qW b
   have b2:=yz b
   have s1:=qW s
   have s2:=yz s
   have hm:=AO s1 s2 (by omega) (by omega:slot≤2147483647)
   obtain⟨hm1,hm2⟩:=hm
   go_enter Tryz.func116,Tryz.ntmps116
   go_wp2_with (go_at_call 130;refine(DN b s _).mono ?_;rintro e w1 ⟨rfl,hb1⟩)
   go_ret
   refine⟨rfl,?_⟩
   exact(aV ((ak _ _).alloc (au _) _) hb1).alloc (by have:=hb1.size;simp at this;omega) _
theorem Ed {b s h:Int}(k:h < bnd b∨(h - bnd b) % bnd s≠0∨2147483647 < (h - bnd b) / bnd s):idx b s h=-1:=by
 unfold idx;rw [aC k]
theorem Nh {b s h:Int}(k1:bnd b≤h)(k2:(h - bnd b) % bnd s=0)(k3:(h - bnd b) / bnd s≤2147483647):idx b s h=(h - bnd b) / bnd s:=by
 unfold idx;rw [ax];rintro(h | h | h) <;> omega
theorem AZ (b s h:Int)(w:World)(h1:-9223372036854775808≤h)(h2:h≤9223372036854775807) :
  Calls Tryz.prog 113 #[.agg #[.int .i64 b,.int .i64 s],.int .i64 h] w fun e w'=>e=.returned (.int .i64 (idx b s h))∧Below w.heap.size w w':=by
 have b1:=qW b
 have b2:=yz b
 have s1:=qW s
 have s2:=yz s
 go_enter Tryz.func113,Tryz.ntmps113
 go_wp2_with (go_at_call 130;refine(DN b s _).mono ?_;rintro e w1 ⟨rfl,hb1⟩)
 all_goals
  go_ret
  refine⟨Rl ?_,(aV ((ak _ _).alloc (au _) _) hb1).alloc (by have:=hb1.size;simp at this;omega) _⟩
  first
   | exact(Ed (.inl (by omega))).symm
   | exact(Ed (.inr (.inl (by assumption)))).symm
   | exact(Ed (.inr (.inr (by omega)))).symm
   | exact(Nh (by omega) (by assumption) (by omega)).symm
end Go.Proofs.YtfelmdkeaacfeaaGreatDoor.W
end
