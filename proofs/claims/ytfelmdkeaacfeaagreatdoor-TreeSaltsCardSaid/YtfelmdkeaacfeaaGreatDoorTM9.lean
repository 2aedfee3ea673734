/- Texts joined: Rsz Shf Laid. -/
import Derived.Test.YtfelmdkeaacfeaaGreatDoorTM1
import Derived.Test.YtfelmdkeaacfeaaGreatDoorTM8
import Derived.LoopTactic
import Derived.Shelf.Small.Strs
import Derived.Shelf.Strings.IndexAnyAll
import Derived.Shelf.Strings.AsciiSet
import Derived.Shelf.Strings.IndexAny
import Derived.Shelf.Strings.Runes
import Derived.Shelf.Strings.Search1
import Derived.Shelf.Small.Utf8
import Derived.Shelf.Strings.Builder1
import Derived.Shelf.Strings.BuilderK
import Derived.Shelf.Strings.RuneCount
import Derived.Shelf.Utf8.RuneCount
import Derived.Shelf.Utf8.AppendRune
import Derived.Test.YtfelmdkeaacfeaaGreatDoorProg
import Derived.Shelf.Unicode.ValidAny
import Derived.Lib.LaidU8T
import Derived.Test.YtfelmdkeaacfeaaGreatDoorRows
import Derived.Test.YtfelmdkeaacfeaaGreatDoorTM2
set_option maxRecDepth 100000
set_option maxHeartbeats 40000000
set_option linter.unusedVariables false
set_option linter.unusedSimpArgs false
section
namespace Go.Proofs.YtfelmdkeaacfeaaGreatDoor.W
open Go.RowKit
def bz (s:ByteArray)(i:Nat):Nat:=(s.get! i).toNat
theorem bz_lt (s:ByteArray)(i:Nat):bz s i < 256:=(s.get! i).toNat_lt
theorem bz_at (s:ByteArray)(i:Nat)(h:i < s.size):bz s i=(s[i]'h).toNat:=by
 unfold bz
 have:=get_at s i h
 rw [Nat.add_zero] at this
 rw [this]
def inB (s:ByteArray)(i lo hi:Nat):Bool:=inN s.size i (bz s i) lo hi
theorem in_any (s:ByteArray)(i lo hi:Nat)(w:World)(hs:s.size≤1000000000)(hi1:i≤1000000010) :
  Calls Tryz.prog 135 #[.string s,.int .i64 (i:Int),.int .u8 (lo:Int),.int .u8 (hi:Int)] w fun e w'=>e=.returned (.bool (inB s i lo hi))∧w'=w:=by
 by_cases h:i < s.size
 ·have e0:=bz_at s i h
  by_cases h1:lo≤(s[i]'h).toNat
  ·by_cases h2:(s[i]'h).toNat≤hi
   ·have e:inB s i lo hi=true:=by unfold inB inN;rw [e0];simp;omega
    have h1':(lo:Int)≤((s[i]'h).toNat:Int):=by omega
    have h2':((s[i]'h).toNat:Int)≤(hi:Int):=by omega
    rw [e]
    clear e e0
    go_enter Tryz.func135,Tryz.ntmps135
    go_wp2
    go_ret
    all_goals (first | exact⟨rfl,rfl⟩ | (refine⟨?_,rfl⟩;simp;omega))
   ·have e:inB s i lo hi=false:=by unfold inB inN;rw [e0];simp;omega
    have h1':(lo:Int)≤((s[i]'h).toNat:Int):=by omega
    have h2':¬((s[i]'h).toNat:Int)≤(hi:Int):=by omega
    rw [e]
    clear e e0
    go_enter Tryz.func135,Tryz.ntmps135
    go_wp2
    go_ret
    all_goals (first | exact⟨rfl,rfl⟩ | (refine⟨?_,rfl⟩;simp;omega))
  ·have e:inB s i lo hi=false:=by unfold inB inN;rw [e0];simp;omega
   have h1':¬(lo:Int)≤((s[i]'h).toNat:Int):=by omega
   rw [e]
   clear e e0
   go_enter Tryz.func135,Tryz.ntmps135
   go_wp2
   go_ret
   all_goals (first | exact⟨rfl,rfl⟩ | (refine⟨?_,rfl⟩;simp;omega))
 ·have e:inB s i lo hi=false:=by unfold inB inN;simp;omega
  rw [e]
  clear e
  go_enter Tryz.func135,Tryz.ntmps135
  go_wp2
  go_ret
  exact⟨rfl,rfl⟩
theorem in_is (s:ByteArray)(i lo hi:Nat)(b:Bool)(hb:inB s i lo hi=b)(w:World)(hs:s.size≤1000000000)(hi1:i≤1000000010) :
  Calls Tryz.prog 135 #[.string s,.int .i64 (i:Int),.int .u8 (lo:Int),.int .u8 (hi:Int)] w fun e w'=>e=.returned (.bool b)∧w'=w:=hb ▸ in_any s i lo hi w hs hi1
def tailB (s:ByteArray)(i:Nat):Nat→Bool
 | 0=>true
 | n+1=>tailB s i n && inB s (i+n) 128 191
theorem tail_any (s:ByteArray)(i n:Nat)(w:World)(hs:s.size≤1000000000)(hi1:i≤1000000005)(hn:n≤3) :
  Calls Tryz.prog 136 #[.string s,.int .i64 (i:Int),.int .i64 (n:Int)] w fun e w'=>e=.returned (.bool (tailB s i n))∧w'=w:=by
 have HI:=Lib.hid (fun k b hb wx hk=>in_is s (i+k) 128 191 b hb wx hs (show i+k≤1000000010 by have:k≤3:=hk;omega))
 have mono:∀k,k≤n→tailB s i k=false→tailB s i n=false:=by
  intro k hk h
  obtain⟨m,rfl⟩:∃m,n=k+m:=⟨n - k,by omega⟩
  clear hk hn
  induction m with
  | zero=>exact h
  | succ m ih=>rw [show k+(m+1)=(k+m)+1 by omega];unfold tailB;rw [ih];rfl
 have HM:=Lib.hid mono
 clear mono
 go_enter Tryz.func136,Tryz.ntmps136
 go_wp2_with fail
 go_loopw [7] (fun iv wr=>∃k:Nat,k≤n∧iv=.int .i64 (k:Int)∧tailB s i k=true∧wr=w) (fun iv _=>n - intN iv)
 case atStart=>exact⟨0,by omega,rfl,rfl,rfl⟩
 case round =>
  obtain⟨k,hk,rfl,ht,rfl⟩:=hrel
  by_cases hlt:k < n
  ·have HT:=Lib.hid ht
   clear ht
   have hk3:k≤3:=by omega
   cases hb:inB s (i+k) 128 191
   ·have HC:=Lib.hid (fun wx=>HI.out k false hb wx hk3)
    have HB:=Lib.hid hb
    clear hb
    go_wp2_with fail
    refine(HC.out _).mono ?_
    rintro e w1 ⟨rfl,rfl⟩
    go_wp2_with fail
    go_ret
    have:tailB s i (k+1)=false:=by unfold tailB;rw [HB.out];simp
    rw [HM.out (k+1) (by omega) this]
    exact⟨rfl,rfl⟩
   ·have HC:=Lib.hid (fun wx=>HI.out k true hb wx hk3)
    have HB:=Lib.hid hb
    clear hb
    go_wp2_with fail
    refine(HC.out _).mono ?_
    rintro e w1 ⟨rfl,rfl⟩
    go_wp2_with fail
    exact⟨⟨k+1,by omega,by first | rfl | simp,by unfold tailB;rw [HT.out,HB.out];rfl,by trivial⟩,by simp only [intN];omega⟩
  ·obtain rfl:k=n:=by omega
   go_wp2_with fail
   go_ret
   rw [ht]
   exact⟨rfl,rfl⟩
def secB (s:ByteArray)(i:Nat):Bool:=if bz s i=224 then inB s (i+1) 160 191 else if bz s i=237 then inB s (i+1) 128 159 else if bz s i=240 then inB s (i+1) 144 191 else if bz s i=244 then inB s (i+1) 128 143 else inB s (i+1) 128 191
theorem second_any (s:ByteArray)(i:Nat)(w:World)(hs:s.size≤1000000000)(h:i < s.size) :
  Calls Tryz.prog 137 #[.string s,.int .i64 (i:Int)] w fun e w'=>e=.returned (.bool (secB s i))∧w'=w:=by
 have HI:=Lib.hid (fun lo hi wx=>in_any s (i+1) lo hi wx hs (by omega))
 have e0:=bz_at s i h
 have hlt:=bz_lt s i
 unfold secB
 by_cases q0:bz s i=224
 ·rw [if_pos q0]
  rw [q0] at e0
  have e1:(((s[i]'h).toNat:Nat):Int)=224:=by omega
  clear e0 q0 hlt
  go_enter Tryz.func137,Tryz.ntmps137
  go_wp2_with fail
  refine(HI.out 160 191 _).mono ?_
  rintro e w1 ⟨rfl,rfl⟩
  go_wp2_with fail
  go_ret
  exact⟨rfl,rfl⟩
 by_cases q1:bz s i=237
 ·rw [if_neg q0,if_pos q1]
  rw [q1] at e0
  have e1:(((s[i]'h).toNat:Nat):Int)=237:=by omega
  clear e0 q0 q1 hlt
  go_enter Tryz.func137,Tryz.ntmps137
  go_wp2_with fail
  refine(HI.out 128 159 _).mono ?_
  rintro e w1 ⟨rfl,rfl⟩
  go_wp2_with fail
  go_ret
  exact⟨rfl,rfl⟩
 by_cases q2:bz s i=240
 ·rw [if_neg q0,if_neg q1,if_pos q2]
  rw [q2] at e0
  have e1:(((s[i]'h).toNat:Nat):Int)=240:=by omega
  clear e0 q0 q1 q2 hlt
  go_enter Tryz.func137,Tryz.ntmps137
  go_wp2_with fail
  refine(HI.out 144 191 _).mono ?_
  rintro e w1 ⟨rfl,rfl⟩
  go_wp2_with fail
  go_ret
  exact⟨rfl,rfl⟩
 by_cases q3:bz s i=244
 ·rw [if_neg q0,if_neg q1,if_neg q2,if_pos q3]
  rw [q3] at e0
  have e1:(((s[i]'h).toNat:Nat):Int)=244:=by omega
  clear e0 q0 q1 q2 q3 hlt
  go_enter Tryz.func137,Tryz.ntmps137
  go_wp2_with fail
  refine(HI.out 128 143 _).mono ?_
  rintro e w1 ⟨rfl,rfl⟩
  go_wp2_with fail
  go_ret
  exact⟨rfl,rfl⟩
 ·rw [if_neg q0,if_neg q1,if_neg q2,if_neg q3]
  have e1:((((s[i]'h).toNat:Nat):Int) == 224)=false:=by simp;omega
  have e2:((((s[i]'h).toNat:Nat):Int) == 237)=false:=by simp;omega
  have e3:((((s[i]'h).toNat:Nat):Int) == 240)=false:=by simp;omega
  have e4:((((s[i]'h).toNat:Nat):Int) == 244)=false:=by simp;omega
  clear e0 q0 q1 q2 q3 hlt
  go_enter Tryz.func137,Tryz.ntmps137
  go_wp2_with fail
  refine(HI.out 128 191 _).mono ?_
  rintro e w1 ⟨rfl,rfl⟩
  go_wp2_with fail
  go_ret
  exact⟨rfl,rfl⟩
def szB (s:ByteArray)(i:Nat):Nat :=
 if inB s i 0 127=true then 1
 else if(inB s i 194 223 && tailB s (i+1) 1)=true then 2
 else if(inB s i 224 239 && secB s i && tailB s (i+2) 1)=true then 3
 else if(inB s i 240 244 && secB s i && tailB s (i+2) 2)=true then 4
 else 0
theorem tail_is (s:ByteArray)(i n:Nat)(b:Bool)(hb:tailB s i n=b)(w:World)(hs:s.size≤1000000000)(hi1:i≤1000000005)(hn:n≤3) :
  Calls Tryz.prog 136 #[.string s,.int .i64 (i:Int),.int .i64 (n:Int)] w fun e w'=>e=.returned (.bool b)∧w'=w:=hb ▸ tail_any s i n w hs hi1 hn
theorem second_is (s:ByteArray)(i:Nat)(b:Bool)(hb:secB s i=b)(w:World)(hs:s.size≤1000000000)(h:i < s.size) :
  Calls Tryz.prog 137 #[.string s,.int .i64 (i:Int)] w fun e w'=>e=.returned (.bool b)∧w'=w:=hb ▸ second_any s i w hs h
theorem size_B (s:ByteArray)(i:Nat)(w:World)(hs:s.size≤1000000000)(hi:i≤s.size) :
  Calls Tryz.prog 122 #[.string s,.int .i64 (i:Int)] w fun e w'=>e=.returned (.int .i64 ((szB s i:Nat):Int))∧w'=w:=by
 have hlt:=bz_lt s i
 by_cases q:i < s.size
 ·by_cases c0:bz s i≤127
  ·have hA:inB s i 0 127=true:=by unfold inB inN;simp;omega
   have hlt:=q
   clear c0
   have H0:=Lib.hid (fun wx=>in_is s i 0 127 true hA wx hs (by omega))
   have es:szB s i=1:=by unfold szB;simp [hA]
   rw [es]
   clear es hA
   go_enter Tryz.func122,Tryz.ntmps122
   go_wp2_with fail
   refine(H0.out _).mono ?_
   rintro e w1 ⟨rfl,rfl⟩
   go_wp2_with fail
   go_ret
   exact⟨rfl,rfl⟩
  by_cases c1:bz s i < 194∨245≤bz s i
  ·have hA:inB s i 0 127=false:=by unfold inB inN;simp;omega
   have hB:inB s i 194 223=false:=by unfold inB inN;simp;omega
   have hC:inB s i 224 239=false:=by unfold inB inN;simp;omega
   have hD:inB s i 240 244=false:=by unfold inB inN;simp;omega
   have hlt:=q
   clear c0 c1
   have H0:=Lib.hid (fun wx=>in_is s i 0 127 false hA wx hs (by omega))
   have H1:=Lib.hid (fun wx=>in_is s i 194 223 false hB wx hs (by omega))
   have H2:=Lib.hid (fun wx=>in_is s i 224 239 false hC wx hs (by omega))
   have H3:=Lib.hid (fun wx=>in_is s i 240 244 false hD wx hs (by omega))
   have es:szB s i=0:=by unfold szB;simp [hA,hB,hC,hD]
   rw [es]
   clear es hA hB hC hD
   go_enter Tryz.func122,Tryz.ntmps122
   go_wp2_with fail
   refine(H0.out _).mono ?_
   rintro e w1 ⟨rfl,rfl⟩
   go_wp2_with fail
   refine(H1.out _).mono ?_
   rintro e w1 ⟨rfl,rfl⟩
   go_wp2_with fail
   refine(H2.out _).mono ?_
   rintro e w1 ⟨rfl,rfl⟩
   go_wp2_with fail
   refine(H3.out _).mono ?_
   rintro e w1 ⟨rfl,rfl⟩
   go_wp2_with fail
   go_ret
   exact⟨rfl,rfl⟩
  by_cases c2:bz s i≤223
  ·have hA:inB s i 0 127=false:=by unfold inB inN;simp;omega
   have hB:inB s i 194 223=true:=by unfold inB inN;simp;omega
   have hC:inB s i 224 239=false:=by unfold inB inN;simp;omega
   have hD:inB s i 240 244=false:=by unfold inB inN;simp;omega
   have hlt:=q
   clear c0 c1 c2
   cases hT:tailB s (i+1) 1
   ·have H0:=Lib.hid (fun wx=>in_is s i 0 127 false hA wx hs (by omega))
    have H1:=Lib.hid (fun wx=>in_is s i 194 223 true hB wx hs (by omega))
    have H2:=Lib.hid (fun wx=>tail_is s (i+1) 1 false hT wx hs (by omega) (by omega))
    have H3:=Lib.hid (fun wx=>in_is s i 224 239 false hC wx hs (by omega))
    have H4:=Lib.hid (fun wx=>in_is s i 240 244 false hD wx hs (by omega))
    have es:szB s i=0:=by unfold szB;simp [hA,hB,hC,hD,hT]
    rw [es]
    clear es hA hB hC hD hT
    go_enter Tryz.func122,Tryz.ntmps122
    go_wp2_with fail
    refine(H0.out _).mono ?_
    rintro e w1 ⟨rfl,rfl⟩
    go_wp2_with fail
    refine(H1.out _).mono ?_
    rintro e w1 ⟨rfl,rfl⟩
    go_wp2_with fail
    refine(H2.out _).mono ?_
    rintro e w1 ⟨rfl,rfl⟩
    go_wp2_with fail
    refine(H3.out _).mono ?_
    rintro e w1 ⟨rfl,rfl⟩
    go_wp2_with fail
    refine(H4.out _).mono ?_
    rintro e w1 ⟨rfl,rfl⟩
    go_wp2_with fail
    go_ret
    exact⟨rfl,rfl⟩
   ·have H0:=Lib.hid (fun wx=>in_is s i 0 127 false hA wx hs (by omega))
    have H1:=Lib.hid (fun wx=>in_is s i 194 223 true hB wx hs (by omega))
    have H2:=Lib.hid (fun wx=>tail_is s (i+1) 1 true hT wx hs (by omega) (by omega))
    have es:szB s i=2:=by unfold szB;simp [hA,hB,hC,hD,hT]
    rw [es]
    clear es hA hB hC hD hT
    go_enter Tryz.func122,Tryz.ntmps122
    go_wp2_with fail
    refine(H0.out _).mono ?_
    rintro e w1 ⟨rfl,rfl⟩
    go_wp2_with fail
    refine(H1.out _).mono ?_
    rintro e w1 ⟨rfl,rfl⟩
    go_wp2_with fail
    refine(H2.out _).mono ?_
    rintro e w1 ⟨rfl,rfl⟩
    go_wp2_with fail
    go_ret
    exact⟨rfl,rfl⟩
  by_cases c3:bz s i≤239
  ·have hA:inB s i 0 127=false:=by unfold inB inN;simp;omega
   have hB:inB s i 194 223=false:=by unfold inB inN;simp;omega
   have hC:inB s i 224 239=true:=by unfold inB inN;simp;omega
   have hD:inB s i 240 244=false:=by unfold inB inN;simp;omega
   have hlt:=q
   clear c0 c1 c2 c3
   cases hS:secB s i
   ·have H0:=Lib.hid (fun wx=>in_is s i 0 127 false hA wx hs (by omega))
    have H1:=Lib.hid (fun wx=>in_is s i 194 223 false hB wx hs (by omega))
    have H2:=Lib.hid (fun wx=>in_is s i 224 239 true hC wx hs (by omega))
    have H3:=Lib.hid (fun wx=>second_is s i false hS wx hs hlt)
    have H4:=Lib.hid (fun wx=>in_is s i 240 244 false hD wx hs (by omega))
    have es:szB s i=0:=by unfold szB;simp [hA,hB,hC,hD,hS]
    rw [es]
    clear es hA hB hC hD hS
    go_enter Tryz.func122,Tryz.ntmps122
    go_wp2_with fail
    refine(H0.out _).mono ?_
    rintro e w1 ⟨rfl,rfl⟩
    go_wp2_with fail
    refine(H1.out _).mono ?_
    rintro e w1 ⟨rfl,rfl⟩
    go_wp2_with fail
    refine(H2.out _).mono ?_
    rintro e w1 ⟨rfl,rfl⟩
    go_wp2_with fail
    refine(H3.out _).mono ?_
    rintro e w1 ⟨rfl,rfl⟩
    go_wp2_with fail
    refine(H4.out _).mono ?_
    rintro e w1 ⟨rfl,rfl⟩
    go_wp2_with fail
    go_ret
    exact⟨rfl,rfl⟩
   ·cases hT:tailB s (i+2) 1
    ·have H0:=Lib.hid (fun wx=>in_is s i 0 127 false hA wx hs (by omega))
     have H1:=Lib.hid (fun wx=>in_is s i 194 223 false hB wx hs (by omega))
     have H2:=Lib.hid (fun wx=>in_is s i 224 239 true hC wx hs (by omega))
     have H3:=Lib.hid (fun wx=>second_is s i true hS wx hs hlt)
     have H4:=Lib.hid (fun wx=>tail_is s (i+2) 1 false hT wx hs (by omega) (by omega))
     have H5:=Lib.hid (fun wx=>in_is s i 240 244 false hD wx hs (by omega))
     have es:szB s i=0:=by unfold szB;simp [hA,hB,hC,hD,hS,hT]
     rw [es]
     clear es hA hB hC hD hS hT
     go_enter Tryz.func122,Tryz.ntmps122
     go_wp2_with fail
     refine(H0.out _).mono ?_
     rintro e w1 ⟨rfl,rfl⟩
     go_wp2_with fail
     refine(H1.out _).mono ?_
     rintro e w1 ⟨rfl,rfl⟩
     go_wp2_with fail
     refine(H2.out _).mono ?_
     rintro e w1 ⟨rfl,rfl⟩
     go_wp2_with fail
     refine(H3.out _).mono ?_
     rintro e w1 ⟨rfl,rfl⟩
     go_wp2_with fail
     refine(H4.out _).mono ?_
     rintro e w1 ⟨rfl,rfl⟩
     go_wp2_with fail
     refine(H5.out _).mono ?_
     rintro e w1 ⟨rfl,rfl⟩
     go_wp2_with fail
     go_ret
     exact⟨rfl,rfl⟩
    ·have H0:=Lib.hid (fun wx=>in_is s i 0 127 false hA wx hs (by omega))
     have H1:=Lib.hid (fun wx=>in_is s i 194 223 false hB wx hs (by omega))
     have H2:=Lib.hid (fun wx=>in_is s i 224 239 true hC wx hs (by omega))
     have H3:=Lib.hid (fun wx=>second_is s i true hS wx hs hlt)
     have H4:=Lib.hid (fun wx=>tail_is s (i+2) 1 true hT wx hs (by omega) (by omega))
     have es:szB s i=3:=by unfold szB;simp [hA,hB,hC,hD,hS,hT]
     rw [es]
     clear es hA hB hC hD hS hT
     go_enter Tryz.func122,Tryz.ntmps122
     go_wp2_with fail
     refine(H0.out _).mono ?_
     rintro e w1 ⟨rfl,rfl⟩
     go_wp2_with fail
     refine(H1.out _).mono ?_
     rintro e w1 ⟨rfl,rfl⟩
     go_wp2_with fail
     refine(H2.out _).mono ?_
     rintro e w1 ⟨rfl,rfl⟩
     go_wp2_with fail
     refine(H3.out _).mono ?_
     rintro e w1 ⟨rfl,rfl⟩
     go_wp2_with fail
     refine(H4.out _).mono ?_
     rintro e w1 ⟨rfl,rfl⟩
     go_wp2_with fail
     go_ret
     exact⟨rfl,rfl⟩
  ·have hA:inB s i 0 127=false:=by unfold inB inN;simp;omega
   have hB:inB s i 194 223=false:=by unfold inB inN;simp;omega
   have hC:inB s i 224 239=false:=by unfold inB inN;simp;omega
   have hD:inB s i 240 244=true:=by unfold inB inN;simp;omega
   have hlt:=q
   clear c0 c1 c2 c3
   cases hS:secB s i
   ·have H0:=Lib.hid (fun wx=>in_is s i 0 127 false hA wx hs (by omega))
    have H1:=Lib.hid (fun wx=>in_is s i 194 223 false hB wx hs (by omega))
    have H2:=Lib.hid (fun wx=>in_is s i 224 239 false hC wx hs (by omega))
    have H3:=Lib.hid (fun wx=>in_is s i 240 244 true hD wx hs (by omega))
    have H4:=Lib.hid (fun wx=>second_is s i false hS wx hs hlt)
    have es:szB s i=0:=by unfold szB;simp [hA,hB,hC,hD,hS]
    rw [es]
    clear es hA hB hC hD hS
    go_enter Tryz.func122,Tryz.ntmps122
    go_wp2_with fail
    refine(H0.out _).mono ?_
    rintro e w1 ⟨rfl,rfl⟩
    go_wp2_with fail
    refine(H1.out _).mono ?_
    rintro e w1 ⟨rfl,rfl⟩
    go_wp2_with fail
    refine(H2.out _).mono ?_
    rintro e w1 ⟨rfl,rfl⟩
    go_wp2_with fail
    refine(H3.out _).mono ?_
    rintro e w1 ⟨rfl,rfl⟩
    go_wp2_with fail
    refine(H4.out _).mono ?_
    rintro e w1 ⟨rfl,rfl⟩
    go_wp2_with fail
    go_ret
    exact⟨rfl,rfl⟩
   ·cases hT:tailB s (i+2) 2
    ·have H0:=Lib.hid (fun wx=>in_is s i 0 127 false hA wx hs (by omega))
     have H1:=Lib.hid (fun wx=>in_is s i 194 223 false hB wx hs (by omega))
     have H2:=Lib.hid (fun wx=>in_is s i 224 239 false hC wx hs (by omega))
     have H3:=Lib.hid (fun wx=>in_is s i 240 244 true hD wx hs (by omega))
     have H4:=Lib.hid (fun wx=>second_is s i true hS wx hs hlt)
     have H5:=Lib.hid (fun wx=>tail_is s (i+2) 2 false hT wx hs (by omega) (by omega))
     have es:szB s i=0:=by unfold szB;simp [hA,hB,hC,hD,hS,hT]
     rw [es]
     clear es hA hB hC hD hS hT
     go_enter Tryz.func122,Tryz.ntmps122
     go_wp2_with fail
     refine(H0.out _).mono ?_
     rintro e w1 ⟨rfl,rfl⟩
     go_wp2_with fail
     refine(H1.out _).mono ?_
     rintro e w1 ⟨rfl,rfl⟩
     go_wp2_with fail
     refine(H2.out _).mono ?_
     rintro e w1 ⟨rfl,rfl⟩
     go_wp2_with fail
     refine(H3.out _).mono ?_
     rintro e w1 ⟨rfl,rfl⟩
     go_wp2_with fail
     refine(H4.out _).mono ?_
     rintro e w1 ⟨rfl,rfl⟩
     go_wp2_with fail
     refine(H5.out _).mono ?_
     rintro e w1 ⟨rfl,rfl⟩
     go_wp2_with fail
     go_ret
     exact⟨rfl,rfl⟩
    ·have H0:=Lib.hid (fun wx=>in_is s i 0 127 false hA wx hs (by omega))
     have H1:=Lib.hid (fun wx=>in_is s i 194 223 false hB wx hs (by omega))
     have H2:=Lib.hid (fun wx=>in_is s i 224 239 false hC wx hs (by omega))
     have H3:=Lib.hid (fun wx=>in_is s i 240 244 true hD wx hs (by omega))
     have H4:=Lib.hid (fun wx=>second_is s i true hS wx hs hlt)
     have H5:=Lib.hid (fun wx=>tail_is s (i+2) 2 true hT wx hs (by omega) (by omega))
     have es:szB s i=4:=by unfold szB;simp [hA,hB,hC,hD,hS,hT]
     rw [es]
     clear es hA hB hC hD hS hT
     go_enter Tryz.func122,Tryz.ntmps122
     go_wp2_with fail
     refine(H0.out _).mono ?_
     rintro e w1 ⟨rfl,rfl⟩
     go_wp2_with fail
     refine(H1.out _).mono ?_
     rintro e w1 ⟨rfl,rfl⟩
     go_wp2_with fail
     refine(H2.out _).mono ?_
     rintro e w1 ⟨rfl,rfl⟩
     go_wp2_with fail
     refine(H3.out _).mono ?_
     rintro e w1 ⟨rfl,rfl⟩
     go_wp2_with fail
     refine(H4.out _).mono ?_
     rintro e w1 ⟨rfl,rfl⟩
     go_wp2_with fail
     refine(H5.out _).mono ?_
     rintro e w1 ⟨rfl,rfl⟩
     go_wp2_with fail
     go_ret
     exact⟨rfl,rfl⟩
 ·have hA:inB s i 0 127=false:=by unfold inB inN;simp;omega
  have hB:inB s i 194 223=false:=by unfold inB inN;simp;omega
  have hC:inB s i 224 239=false:=by unfold inB inN;simp;omega
  have hD:inB s i 240 244=false:=by unfold inB inN;simp;omega
  have H0:=Lib.hid (fun wx=>in_is s i 0 127 false hA wx hs (by omega))
  have H1:=Lib.hid (fun wx=>in_is s i 194 223 false hB wx hs (by omega))
  have H2:=Lib.hid (fun wx=>in_is s i 224 239 false hC wx hs (by omega))
  have H3:=Lib.hid (fun wx=>in_is s i 240 244 false hD wx hs (by omega))
  have es:szB s i=0:=by unfold szB;simp [hA,hB,hC,hD]
  rw [es]
  clear es hA hB hC hD
  go_enter Tryz.func122,Tryz.ntmps122
  go_wp2_with fail
  refine(H0.out _).mono ?_
  rintro e w1 ⟨rfl,rfl⟩
  go_wp2_with fail
  refine(H1.out _).mono ?_
  rintro e w1 ⟨rfl,rfl⟩
  go_wp2_with fail
  refine(H2.out _).mono ?_
  rintro e w1 ⟨rfl,rfl⟩
  go_wp2_with fail
  refine(H3.out _).mono ?_
  rintro e w1 ⟨rfl,rfl⟩
  go_wp2_with fail
  go_ret
  exact⟨rfl,rfl⟩
theorem szB_szL (s:ByteArray)(i:Nat)(hi:i≤s.size):szB s i=szL (s.data.toList.drop i):=by
 by_cases h:i < s.size
 ·have hsz:s.data.toList.length=s.size:=by rw [Array.length_toList];rfl
  have hne:s.data.toList.drop i≠[]:=by
   intro e
   have:=congrArg List.length e
   rw [List.length_drop,hsz] at this
   simp at this
   omega
  rw [szL_N _ hne,List.length_drop,hsz]
  have g:∀k,(((s.data.toList.drop i).getD k 0).toNat=bz s (i+k)):=by
   intro k
   unfold bz
   rw [List.getD_eq_getElem?_getD,List.getElem?_drop]
   by_cases hk:i+k < s.size
   ·rw [List.getElem?_eq_getElem (by rw [hsz];exact hk)]
    show(s.data.toList[i+k]'(by rw [hsz];exact hk)).toNat=(s.get! (i+k)).toNat
    congr 1
    rw [Array.getElem_toList]
    show _=s.data[i+k]!
    rw [getElem!_pos s.data (i+k) hk]
   ·rw [List.getElem?_eq_none (by rw [hsz];omega)]
    show _=(s.data[i+k]!).toNat
    rw [getElem!_neg s.data (i+k) hk]
    rfl
  rw [g,g,g,g,Nat.add_zero]
  have e0:∀k lo hi,inB s (i+k) lo hi=inN (s.size - i) k (bz s (i+k)) lo hi:=by
   intro k lo hi
   unfold inB inN
   rw [show decide (i+k < s.size)=decide (k < s.size - i) from decide_eq_decide.2 (by omega)]
  have e00:∀lo hi,inB s i lo hi=inN (s.size - i) 0 (bz s i) lo hi:=fun lo hi=>e0 0 lo hi
  have e1:tailB s (i+1) 1=inN (s.size - i) 1 (bz s (i+1)) 128 191:=by
   unfold tailB tailB
   rw [Bool.true_and,Nat.add_zero,e0]
  have e2:tailB s (i+2) 1=inN (s.size - i) 2 (bz s (i+2)) 128 191:=by
   unfold tailB tailB
   rw [Bool.true_and,Nat.add_zero,e0]
  have e3:tailB s (i+2) 2=(inN (s.size - i) 2 (bz s (i+2)) 128 191 && inN (s.size - i) 3 (bz s (i+3)) 128 191):=by
   show(tailB s (i+2) 1 && inB s (i+2+1) 128 191)=_
   rw [e2,show i+2+1=i+3 by omega,e0]
  have e4:secB s i=secN (s.size - i) (bz s i) (bz s (i+1)):=by
   unfold secB secN
   rw [e0,e0,e0,e0,e0]
  unfold szB szN
  rw [e00,e00,e00,e00,e1,e2,e3,e4]
 ·obtain rfl:i=s.size:=by omega
  have hA:inB s s.size 0 127=false:=by unfold inB inN;simp
  have hB:inB s s.size 194 223=false:=by unfold inB inN;simp
  have hC:inB s s.size 224 239=false:=by unfold inB inN;simp
  have hD:inB s s.size 240 244=false:=by unfold inB inN;simp
  have e:s.data.toList.drop s.size=[]:=List.drop_eq_nil_of_le (by rw [Array.length_toList];exact Nat.le_refl _)
  rw [e]
  unfold szB szL
  simp [hA,hB,hC,hD]
theorem size_any (s:ByteArray)(i:Nat)(w:World)(hs:s.size≤1000000000)(hi:i≤s.size) :
  Calls Tryz.prog 122 #[.string s,.int .i64 (i:Int)] w fun e w'=>e=.returned (.int .i64 ((szL (s.data.toList.drop i):Nat):Int))∧w'=w:=by
 rw [← szB_szL s i hi]
 exact size_B s i w hs hi
end Go.Proofs.YtfelmdkeaacfeaaGreatDoor.W
end
section
namespace Go.Proofs
open Go.Shelf
def Tryz.lays137_ren:Go.Shelf.Ren:=⟨fun | 137=>107 | 217=>127 | 266=>143 | n=>n,fun | 9=>9 | 5=>5 | 3=>3 | n=>n,fun | n=>n⟩
theorem Tryz.lays137:Go.Proofs.Lays.n137 Tryz.prog Tryz.lays137_ren:={
 mixed:=by kernel_rfl
 f137:=Tryz.func107.trans (congrArg some (by kernel_rfl))
 f217:=Tryz.func127.trans (congrArg some (by kernel_rfl))
 f266:=Tryz.func143.trans (congrArg some (by kernel_rfl))
 t3:=Tryz.underlying3
 a3:=Tryz.isAgg3
 z3:=Tryz.sizeOf3
 v3:=Tryz.zeroValue3
 t5:=Tryz.underlying5
 a5:=Tryz.isAgg5
 z5:=Tryz.sizeOf5
 v5:=Tryz.zeroValue5
 t9:=Tryz.underlying9
 a9:=Tryz.isAgg9
 z9:=Tryz.sizeOf9
 v9:=Tryz.zeroValue9 }
open Go.RowKit in
theorem Tryz.strings_IndexByte (s:ByteArray)(c:Int)(w:World) :
  Calls Tryz.prog 107 #[.string s,.int .u8 c] w fun e w'=>e=.returned (.int .i64 (Lib.indexByte s.data.toList c.toNat.toUInt8))∧w'=w:=Any.strings_IndexByte Tryz.lays137 s c w
def Tryz.lays150_ren:Go.Shelf.Ren:=⟨fun | 150=>106 | 153=>126 | 152=>139 | 226=>140 | 227=>141 | 228=>142 | 137=>107 | 119=>145 | 224=>146 | 225=>147 | 217=>127 | 266=>143 | n=>n,fun | 9=>9 | 4=>4 | 3=>3 | 5=>5 | 21=>21 | 117=>190 | 116=>189 | 0=>0 | 46=>177 | 124=>195 | n=>n,fun | n=>n⟩
theorem Tryz.lays150:Go.Proofs.Lays.n150 Tryz.prog Tryz.lays150_ren:={
 mixed:=by kernel_rfl
 f119:=Tryz.func145.trans (congrArg some (by kernel_rfl))
 f137:=Tryz.func107.trans (congrArg some (by kernel_rfl))
 f150:=Tryz.func106.trans (congrArg some (by kernel_rfl))
 f152:=Tryz.func139.trans (congrArg some (by kernel_rfl))
 f153:=Tryz.func126.trans (congrArg some (by kernel_rfl))
 f217:=Tryz.func127.trans (congrArg some (by kernel_rfl))
 f224:=Tryz.func146.trans (congrArg some (by kernel_rfl))
 f225:=Tryz.func147.trans (congrArg some (by kernel_rfl))
 f226:=Tryz.func140.trans (congrArg some (by kernel_rfl))
 f227:=Tryz.func141.trans (congrArg some (by kernel_rfl))
 f228:=Tryz.func142.trans (congrArg some (by kernel_rfl))
 f266:=Tryz.func143.trans (congrArg some (by kernel_rfl))
 t0:=Tryz.underlying0
 a0:=Tryz.isAgg0
 z0:=Tryz.sizeOf0
 v0:=Tryz.zeroValue0
 t3:=Tryz.underlying3
 a3:=Tryz.isAgg3
 z3:=Tryz.sizeOf3
 v3:=Tryz.zeroValue3
 t4:=Tryz.underlying4
 a4:=Tryz.isAgg4
 z4:=Tryz.sizeOf4
 v4:=Tryz.zeroValue4
 t5:=Tryz.underlying5
 a5:=Tryz.isAgg5
 z5:=Tryz.sizeOf5
 v5:=Tryz.zeroValue5
 t9:=Tryz.underlying9
 a9:=Tryz.isAgg9
 z9:=Tryz.sizeOf9
 v9:=Tryz.zeroValue9
 t21:=Tryz.underlying21
 a21:=Tryz.isAgg21
 z21:=Tryz.sizeOf21
 v21:=Tryz.zeroValue21
 t46:=Tryz.underlying177
 a46:=Tryz.isAgg177
 z46:=Tryz.sizeOf177
 v46:=Tryz.zeroValue177
 t116:=Tryz.underlying189
 a116:=Tryz.isAgg189
 z116:=Tryz.sizeOf189
 t117:=Tryz.underlying190
 a117:=Tryz.isAgg190
 z117:=Tryz.sizeOf190
 v117:=Tryz.zeroValue190
 t124:=Tryz.underlying195
 a124:=Tryz.isAgg195
 z124:=Tryz.sizeOf195
 v124:=Tryz.zeroValue195 }
open Go.RowKit Go.Lib in
theorem Tryz.strings_ContainsAny_laid (s chars:ByteArray)(w:World)(hs:s.size < 4294967281)(hcs:chars.size < 4294967281)(has:∀(j:Nat) b,s.data.toList[j]? = some b→b.toNat < 128)(hac:∀(j:Nat) b,chars.data.toList[j]? = some b→b.toNat < 128) :
  Calls Tryz.prog 106 #[.string s,.string chars] w fun e w'=>e=.returned (.bool (Lib.containsAny s.data.toList chars.data.toList))∧Below w.heap.size w w':=Any.strings_ContainsAny_laid Tryz.lays150 (by kernel_rfl) s chars w hs hcs has hac
def Tryz.lays153_ren:Go.Shelf.Ren:=⟨fun | 153=>126 | 152=>139 | 226=>140 | 227=>141 | 228=>142 | 137=>107 | 119=>145 | 224=>146 | 225=>147 | 217=>127 | 266=>143 | n=>n,fun | 9=>9 | 3=>3 | 4=>4 | 5=>5 | 21=>21 | 117=>190 | 116=>189 | 0=>0 | 46=>177 | 124=>195 | n=>n,fun | n=>n⟩
theorem Tryz.lays153:Go.Proofs.Lays.n153 Tryz.prog Tryz.lays153_ren:={
 mixed:=by kernel_rfl
 f119:=Tryz.func145.trans (congrArg some (by kernel_rfl))
 f137:=Tryz.func107.trans (congrArg some (by kernel_rfl))
 f152:=Tryz.func139.trans (congrArg some (by kernel_rfl))
 f153:=Tryz.func126.trans (congrArg some (by kernel_rfl))
 f217:=Tryz.func127.trans (congrArg some (by kernel_rfl))
 f224:=Tryz.func146.trans (congrArg some (by kernel_rfl))
 f225:=Tryz.func147.trans (congrArg some (by kernel_rfl))
 f226:=Tryz.func140.trans (congrArg some (by kernel_rfl))
 f227:=Tryz.func141.trans (congrArg some (by kernel_rfl))
 f228:=Tryz.func142.trans (congrArg some (by kernel_rfl))
 f266:=Tryz.func143.trans (congrArg some (by kernel_rfl))
 t0:=Tryz.underlying0
 a0:=Tryz.isAgg0
 z0:=Tryz.sizeOf0
 v0:=Tryz.zeroValue0
 t3:=Tryz.underlying3
 a3:=Tryz.isAgg3
 z3:=Tryz.sizeOf3
 v3:=Tryz.zeroValue3
 t4:=Tryz.underlying4
 a4:=Tryz.isAgg4
 z4:=Tryz.sizeOf4
 v4:=Tryz.zeroValue4
 t5:=Tryz.underlying5
 a5:=Tryz.isAgg5
 z5:=Tryz.sizeOf5
 v5:=Tryz.zeroValue5
 t9:=Tryz.underlying9
 a9:=Tryz.isAgg9
 z9:=Tryz.sizeOf9
 v9:=Tryz.zeroValue9
 t21:=Tryz.underlying21
 a21:=Tryz.isAgg21
 z21:=Tryz.sizeOf21
 v21:=Tryz.zeroValue21
 t46:=Tryz.underlying177
 a46:=Tryz.isAgg177
 z46:=Tryz.sizeOf177
 v46:=Tryz.zeroValue177
 t116:=Tryz.underlying189
 a116:=Tryz.isAgg189
 z116:=Tryz.sizeOf189
 t117:=Tryz.underlying190
 a117:=Tryz.isAgg190
 z117:=Tryz.sizeOf190
 v117:=Tryz.zeroValue190
 t124:=Tryz.underlying195
 a124:=Tryz.isAgg195
 z124:=Tryz.sizeOf195
 v124:=Tryz.zeroValue195 }
open Go.RowKit Go.Lib in
theorem Tryz.strings_IndexAny_long (hv116:∀w,(zeroValue 189).run Tryz.prog w=.ok (.agg (Array.replicate 256 (.bool false))) w)(s chars:ByteArray)(w:World)(h2:2≤chars.size)(h8:8 < s.size)(hs:s.size < 4294967281)(hcs:chars.size < 4294967281)(hascii:∀(j:Nat) b,chars.data.toList[j]? = some b→b.toNat < 128) :
  Calls Tryz.prog 126 #[.string s,.string chars] w fun e w'=>e=.returned (.int .i64 (Lib.indexAny s.data.toList chars.data.toList))∧w'=((w.alloc (.cells (Lib.setCells chars.data.toList) 189)).alloc (.cells (Lib.setCells chars.data.toList) 189)):=Any.strings_IndexAny_long Tryz.lays153 hv116 (by kernel_rfl) s chars w h2 h8 hs hcs hascii
def Tryz.lays152_ren:Go.Shelf.Ren:=⟨fun | 152=>139 | 137=>107 | 119=>145 | 224=>146 | 225=>147 | 217=>127 | 266=>143 | n=>n,fun | 9=>9 | 21=>21 | 3=>3 | 4=>4 | 5=>5 | 0=>0 | 46=>177 | n=>n,fun | n=>n⟩
theorem Tryz.lays152:Go.Proofs.Lays.n152 Tryz.prog Tryz.lays152_ren:={
 mixed:=by kernel_rfl
 f119:=Tryz.func145.trans (congrArg some (by kernel_rfl))
 f137:=Tryz.func107.trans (congrArg some (by kernel_rfl))
 f152:=Tryz.func139.trans (congrArg some (by kernel_rfl))
 f217:=Tryz.func127.trans (congrArg some (by kernel_rfl))
 f224:=Tryz.func146.trans (congrArg some (by kernel_rfl))
 f225:=Tryz.func147.trans (congrArg some (by kernel_rfl))
 f266:=Tryz.func143.trans (congrArg some (by kernel_rfl))
 t0:=Tryz.underlying0
 a0:=Tryz.isAgg0
 z0:=Tryz.sizeOf0
 v0:=Tryz.zeroValue0
 t3:=Tryz.underlying3
 a3:=Tryz.isAgg3
 z3:=Tryz.sizeOf3
 v3:=Tryz.zeroValue3
 t4:=Tryz.underlying4
 a4:=Tryz.isAgg4
 z4:=Tryz.sizeOf4
 v4:=Tryz.zeroValue4
 t5:=Tryz.underlying5
 a5:=Tryz.isAgg5
 z5:=Tryz.sizeOf5
 v5:=Tryz.zeroValue5
 t9:=Tryz.underlying9
 a9:=Tryz.isAgg9
 z9:=Tryz.sizeOf9
 v9:=Tryz.zeroValue9
 t21:=Tryz.underlying21
 a21:=Tryz.isAgg21
 z21:=Tryz.sizeOf21
 v21:=Tryz.zeroValue21
 t46:=Tryz.underlying177
 a46:=Tryz.isAgg177
 z46:=Tryz.sizeOf177
 v46:=Tryz.zeroValue177 }
open Go.RowKit Go.Lib in
theorem Tryz.strings_IndexRune_ascii (s:ByteArray)(r:Int)(w:World)(h0:0≤r)(h1:r < 128) :
  Calls Tryz.prog 139 #[.string s,.int .i32 r] w fun e w'=>e=.returned (.int .i64 (Lib.indexByte s.data.toList r.toNat.toUInt8))∧w'=w:=Any.strings_IndexRune_ascii Tryz.lays152 s r w h0 h1
def Tryz.lays226_ren:Go.Shelf.Ren:=⟨fun | 226=>140 | n=>n,fun | 3=>3 | 4=>4 | n=>n,fun | n=>n⟩
theorem Tryz.lays226:Go.Proofs.Lays.n226 Tryz.prog Tryz.lays226_ren:={
 mixed:=by kernel_rfl
 f226:=Tryz.func140.trans (congrArg some (by kernel_rfl))
 t3:=Tryz.underlying3
 a3:=Tryz.isAgg3
 z3:=Tryz.sizeOf3
 v3:=Tryz.zeroValue3
 t4:=Tryz.underlying4
 a4:=Tryz.isAgg4
 z4:=Tryz.sizeOf4
 v4:=Tryz.zeroValue4 }
open Go.RowKit Go.Lib in
theorem Tryz.strings_shouldUseASCIISet (n:Int)(w:World) :
  Calls Tryz.prog 140 #[.int .i64 n] w fun e w'=>e=.returned (.bool (decide (8 < n)))∧w'=w:=Any.strings_shouldUseASCIISet Tryz.lays226 n w
def Tryz.lays195_ren:Go.Shelf.Ren:=⟨fun | 195=>110 | n=>n,fun | 9=>9 | 3=>3 | 0=>0 | 4=>4 | n=>n,fun | n=>n⟩
theorem Tryz.lays195:Go.Proofs.Lays.n195 Tryz.prog Tryz.lays195_ren:={
 mixed:=by kernel_rfl
 f195:=Tryz.func110.trans (congrArg some (by kernel_rfl))
 t0:=Tryz.underlying0
 a0:=Tryz.isAgg0
 z0:=Tryz.sizeOf0
 v0:=Tryz.zeroValue0
 t3:=Tryz.underlying3
 a3:=Tryz.isAgg3
 z3:=Tryz.sizeOf3
 v3:=Tryz.zeroValue3
 t4:=Tryz.underlying4
 a4:=Tryz.isAgg4
 z4:=Tryz.sizeOf4
 v4:=Tryz.zeroValue4
 t9:=Tryz.underlying9
 a9:=Tryz.isAgg9
 z9:=Tryz.sizeOf9
 v9:=Tryz.zeroValue9 }
open Go.RowKit in
theorem Tryz.utf8_RuneCountInString (s:ByteArray)(w:World)(hs:s.size < 9223372036854775807) :
  Calls Tryz.prog 110 #[.string s] w fun e w'=>e=.returned (.int .i64 (Lib.runeCount s))∧∃pos,w'=w.iter s pos:=Any.utf8_RuneCountInString Tryz.lays195 s w hs
def Tryz.lays242_ren:Go.Shelf.Ren:=⟨fun | 242=>129 | 278=>144 | n=>n,fun | 37=>122 | 21=>21 | 51=>193 | 4=>4 | 5=>5 | 46=>177 | n=>n,fun | n=>n⟩
theorem Tryz.lays242:Go.Proofs.Lays.n242 Tryz.prog Tryz.lays242_ren:={
 mixed:=by kernel_rfl
 f242:=Tryz.func129.trans (congrArg some (by kernel_rfl))
 f278:=Tryz.func144.trans (congrArg some (by kernel_rfl))
 t4:=Tryz.underlying4
 a4:=Tryz.isAgg4
 z4:=Tryz.sizeOf4
 v4:=Tryz.zeroValue4
 t5:=Tryz.underlying5
 a5:=Tryz.isAgg5
 z5:=Tryz.sizeOf5
 v5:=Tryz.zeroValue5
 t21:=Tryz.underlying21
 a21:=Tryz.isAgg21
 z21:=Tryz.sizeOf21
 v21:=Tryz.zeroValue21
 t37:=Tryz.underlying122
 a37:=Tryz.isAgg122
 z37:=Tryz.sizeOf122
 v37:=Tryz.zeroValue122
 t46:=Tryz.underlying177
 a46:=Tryz.isAgg177
 z46:=Tryz.sizeOf177
 v46:=Tryz.zeroValue177
 t51:=Tryz.underlying193
 a51:=Tryz.isAgg193
 z51:=Tryz.sizeOf193
 v51:=Tryz.zeroValue193 }
open Go.RowKit in
theorem Tryz.utf8_AppendRune_row (B:Nat)(v:Value)(n:Nat)(xs:List Value)(r:Int)(hr0:-2147483648≤r)(hr1:r≤2147483647)(w:World)(hown:w.ownsRowF B 5 1 v n xs)(hlen:n+4≤140737488355328)(hBw:B≤w.heap.size) :
  Calls Tryz.prog 129 #[v,.int .i32 r] w fun e w'=>∃v',e=.returned v'∧w'.ownsRowF B 5 1 v' (n+(Lib.runeCells r).length) (xs ++ Lib.runeCells r)∧∃o,(w.alloc o).grownBy w' v.ownBlock:=Any.utf8_AppendRune_row Tryz.lays242 (by kernel_rfl) B v n xs r hr0 hr1 w hown hlen hBw
def Tryz.lays169_ren:Go.Shelf.Ren:=⟨fun | 169=>76 | n=>n,fun | 70=>121 | 9=>9 | 0=>0 | 72=>124 | 37=>122 | 127=>161 | 3=>3 | 5=>5 | n=>n,fun | n=>n⟩
theorem Tryz.lays169:Go.Proofs.Lays.n169 Tryz.prog Tryz.lays169_ren:={
 mixed:=by kernel_rfl
 f169:=Tryz.func76.trans (congrArg some (by kernel_rfl))
 t0:=Tryz.underlying0
 a0:=Tryz.isAgg0
 z0:=Tryz.sizeOf0
 v0:=Tryz.zeroValue0
 t3:=Tryz.underlying3
 a3:=Tryz.isAgg3
 z3:=Tryz.sizeOf3
 v3:=Tryz.zeroValue3
 t9:=Tryz.underlying9
 a9:=Tryz.isAgg9
 z9:=Tryz.sizeOf9
 v9:=Tryz.zeroValue9
 t37:=Tryz.underlying122
 a37:=Tryz.isAgg122
 z37:=Tryz.sizeOf122
 v37:=Tryz.zeroValue122
 t70:=Tryz.underlying121
 a70:=Tryz.isAgg121
 z70:=Tryz.sizeOf121
 v70:=Tryz.zeroValue121
 t72:=Tryz.underlying124
 a72:=Tryz.isAgg124
 z72:=Tryz.sizeOf124
 v72:=Tryz.zeroValue124
 t127:=Tryz.underlying161
 a127:=Tryz.isAgg161
 z127:=Tryz.sizeOf161
 v127:=Tryz.zeroValue161 }
theorem Tryz.Builder_Extra_169:Builder.Extra Tryz.prog Tryz.lays169_ren:={
 sizeBuilder:=by kernel_rfl
 liesBuilder:=by kernel_rfl
 t5:=Tryz.underlying5
 a5:=Tryz.isAgg5
 z5:=Tryz.sizeOf5
 v5:=Tryz.zeroValue5
 infoByte:=by kernel_rfl
 cellsByte:=by kernel_rfl
 sizeByte:=by kernel_rfl
 neB5:=by decide }
open Go.RowKit in
theorem Tryz.Builder_String_any_k (B b:Nat)(l:List UInt8)(w:World)(h:Lib.IsBuilderF 124 5 B b (Lib.byteCells l) w)(hBw:B≤w.heap.size) :
  Calls Tryz.prog 76 #[.pointer (some ⟨b,0,none⟩)] w fun e w'=>e=.returned (.string ⟨l.toArray⟩)∧(Lib.IsBuilderF 124 5 B b (Lib.byteCells l) w'∧Below B w w'∧Lib.OthersKept 5 (some b) w w'):=Any.Builder_String_any_k Tryz.lays169 Tryz.Builder_Extra_169 B b l w h hBw
def Tryz.lays119_ren:Go.Shelf.Ren:=⟨fun | 119=>145 | n=>n,fun | 21=>21 | 4=>4 | n=>n,fun | n=>n⟩
theorem Tryz.lays119:Go.Proofs.Lays.n119 Tryz.prog Tryz.lays119_ren:={
 mixed:=by kernel_rfl
 f119:=Tryz.func145.trans (congrArg some (by kernel_rfl))
 t4:=Tryz.underlying4
 a4:=Tryz.isAgg4
 z4:=Tryz.sizeOf4
 v4:=Tryz.zeroValue4
 t21:=Tryz.underlying21
 a21:=Tryz.isAgg21
 z21:=Tryz.sizeOf21
 v21:=Tryz.zeroValue21 }
theorem Tryz.utf8_ValidRune (r:Int)(w:World) :
  Calls Tryz.prog 145 #[.int .i32 r] w fun e w'=>e=.returned (.bool (Lib.validRune r))∧w'=w:=Any.utf8_ValidRune Tryz.lays119 r w
end Go.Proofs
end
section
namespace Go.Proofs
open Go.Shelf
def Tryz.laysValid_ren:Go.Shelf.Ren:=⟨fun | 196=>108 | 259=>128 | n=>n,fun | 9=>9 | 4=>4 | 3=>3 | 5=>5 | 12=>12 | 119=>173 | 0=>0 | 46=>177 | 139=>176 | 138=>175 | 53=>192 | n=>n,fun | 3=>0 | 4=>1 | n=>n⟩
theorem Tryz.laysValid:Go.Proofs.Lays.n196 Tryz.prog Tryz.laysValid_ren:={
 mixed:=by kernel_rfl
 f196:=Tryz.func108.trans (congrArg some (by kernel_rfl))
 f259:=Tryz.func128.trans (congrArg some (by kernel_rfl))
 t0:=Tryz.underlying0
 a0:=Tryz.isAgg0
 z0:=Tryz.sizeOf0
 v0:=Tryz.zeroValue0
 t3:=Tryz.underlying3
 a3:=Tryz.isAgg3
 z3:=Tryz.sizeOf3
 v3:=Tryz.zeroValue3
 t4:=Tryz.underlying4
 a4:=Tryz.isAgg4
 z4:=Tryz.sizeOf4
 v4:=Tryz.zeroValue4
 t5:=Tryz.underlying5
 a5:=Tryz.isAgg5
 z5:=Tryz.sizeOf5
 v5:=Tryz.zeroValue5
 t9:=Tryz.underlying9
 a9:=Tryz.isAgg9
 z9:=Tryz.sizeOf9
 v9:=Tryz.zeroValue9
 t12:=Tryz.underlying12
 a12:=Tryz.isAgg12
 z12:=Tryz.sizeOf12
 v12:=Tryz.zeroValue12
 t46:=Tryz.underlying177
 a46:=Tryz.isAgg177
 z46:=Tryz.sizeOf177
 v46:=Tryz.zeroValue177
 t53:=Tryz.underlying192
 a53:=Tryz.isAgg192
 z53:=Tryz.sizeOf192
 v53:=Tryz.zeroValue192
 t119:=Tryz.underlying173
 a119:=Tryz.isAgg173
 z119:=Tryz.sizeOf173
 t138:=Tryz.underlying175
 a138:=Tryz.isAgg175
 z138:=Tryz.sizeOf175
 v138:=Tryz.zeroValue175
 t139:=Tryz.underlying176
 a139:=Tryz.isAgg176
 z139:=Tryz.sizeOf176
 v139:=Tryz.zeroValue176
 g3:=by kernel_rfl
 g4:=by kernel_rfl }
end Go.Proofs
namespace Go.Proofs.YtfelmdkeaacfeaaGreatDoor.W
open Go.RowKit
structure Laid (w:World):Prop where
 tabs:Lib.Utf8Tabs 0 1 w
theorem Laid.below {w w':World}(h:Laid w)(hb:Below w.heap.size w w'):Laid w' where
 tabs:=⟨fun c hc=>cell_keep hb (h.tabs.1 c hc),fun i hi=>⟨cell_keep hb (h.tabs.2 i hi).1,cell_keep hb (h.tabs.2 i hi).2⟩⟩
theorem valid_any (s:ByteArray)(w:World)(hs:s.size≤9223372036854775807)(hT:Laid w) :
  Calls Tryz.prog 108 #[.string s] w fun e w'=>e=.returned (.bool (Lib.validD s.data.toList))∧Below w.heap.size w w' :=
 Any.utf8_ValidString Tryz.laysValid s w hs hT.tabs
end Go.Proofs.YtfelmdkeaacfeaaGreatDoor.W
end
