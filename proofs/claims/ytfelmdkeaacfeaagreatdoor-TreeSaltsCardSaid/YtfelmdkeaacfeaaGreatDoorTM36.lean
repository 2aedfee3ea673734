/- Texts joined: MaN DoF DoG DoH. -/
import Derived.Test.YtfelmdkeaacfeaaGreatDoorTM1
import Derived.Test.YtfelmdkeaacfeaaGreatDoorTM31
import Derived.Test.YtfelmdkeaacfeaaGreatDoorTM35
import Derived.Test.YtfelmdkeaacfeaaGreatDoorTM29
set_option maxRecDepth 100000
set_option maxHeartbeats 40000000
set_option linter.unusedVariables false
set_option linter.unusedSimpArgs false
section
namespace Go.Proofs.YtfelmdkeaacfeaaGreatDoor.W
open Go.RowKit
theorem match_len {w:World}{g:Nat}{v1 v2:Value}{l m:List Rc}(h1:Own w 41 11 v1 l.length (rows encR l))(h2:Own w 144 11 v2 m.length (rows encR m))(hne:l.length≠m.length) :
  Calls Tryz.prog 50 #[.pointer (some ⟨g,0,none⟩),v1,v2] w fun e w'=>e=.returned (.bool false)∧w'=w:=by
 obtain⟨a1,c1,rfl⟩:=own_shape h1
 obtain⟨a2,c2,rfl⟩:=own_shape h2
 have hd:((l.length:Int) != (m.length:Int))=true:=by simp;omega
 clear h1 h2
 go_enter Tryz.func50,Tryz.ntmps50
 go_wp2_with fail
 go_ret
 exact⟨rfl,rfl⟩
theorem match_old_a {w:World}{g:Nat}{a b hv v1 v2:Value}{Hs:List Int}{l m:List Rc}(h:Blk w g [a,b,hv] 33)(ho:Own w 3 1 hv Hs.length (hC Hs))(hl:Hs.length≤100000){y z:Rc}(h1:Own w 41 11 v1 1 (rows encR [y]))(h2:Own w 144 11 v2 1 (rows encR [z]))
  (hyz:y={ cvR Hs z with old:=y.old,had:=y.had })(hzr:HndOk z.target∧HndOk z.node∧HndOk z.prev∧HndOk z.next)(hne:y.old≠z.old) :
  Calls Tryz.prog 50 #[.pointer (some ⟨g,0,none⟩),v1,v2] w fun e w'=>e=.returned (.bool false)∧Below w.heap.size w w':=by
 obtain⟨a1,c1,rfl⟩:=own_shape h1
 obtain⟨a2,c2,rfl⟩:=own_shape h2
 have H1:=Lib.hid h1
 have H2:=Lib.hid h2
 have HH:=Lib.hid (fun wx (hb:Below w.heap.size w wx) v (hv:HndOk v)=>thandle_any (h.below hb) (own_belowM ho hb) hl v hv.1 hv.2)
 clear h1 h2 h ho
 go_enter Tryz.func50,Tryz.ntmps50
 go_wp2_with fail
 go_loopw [7] (fun iv wr=>iv=.int .i64 0∧Below w.heap.size w wr) (fun iv _=>0)
 case atStart=>exact⟨rfl,Below.refl _ _⟩
 case round =>
  obtain⟨rfl,hB⟩:=hrel
  have hki:(0:Int) < (1:Int):=by omega
  obtain⟨g1,k1,he,qlt,q0,q1,q2,q3,q4,q5,q6,q7,q8,q9,q10⟩:=r_cells (l:=[y]) (own_belowM H1.out hB) (k:=0) rfl
  simp only [Value.slice.injEq,true_and,List.length_singleton] at he
  obtain⟨rfl,rfl⟩:=he
  obtain⟨g2,k2,he,plt,p0,p1,p2,p3,p4,p5,p6,p7,p8,p9,p10⟩:=rm_cells (l:=[z]) (own_belowM H2.out hB) (k:=0) rfl
  simp only [Value.slice.injEq,true_and,List.length_singleton] at he
  obtain⟨rfl,rfl⟩:=he
  obtain⟨z0,z1,z2,z3,z4,z5,z6,z7,z8,z9,z10⟩:=z
  obtain⟨y0,_,_,_,_,y5,y6,y7,y8,y9,y10⟩:=y
  simp only [cvR,Rc.mk.injEq,and_true,true_and] at hyz
  obtain⟨rfl,rfl,rfl,rfl,rfl,rfl,rfl,rfl,rfl⟩:=hyz
  simp only [Nat.zero_mul,Nat.zero_add] at q0 q1 q2 q3 q4 q5 q6 q7 q8 q9 q10 p0 p1 p2 p3 p4 p5 p6 p7 p8 p9 p10 hzr
  obtain⟨r1,r2,r3,r4⟩:=hzr
  have HH1:=Lib.hid (fun wx hb=>HH.out wx hb z1 r1)
  have HH2:=Lib.hid (fun wx hb=>HH.out wx hb z2 r2)
  have HH3:=Lib.hid (fun wx hb=>HH.out wx hb z3 r3)
  have HH4:=Lib.hid (fun wx hb=>HH.out wx hb z4 r4)
  clear r1 r2 r3 r4
  generalize (⟨y6.toArray⟩:ByteArray)=t6 at *
  have hb:=bytes_ne hne
  generalize (⟨z7.toArray⟩:ByteArray)=t7 at *
  generalize (⟨y7.toArray⟩:ByteArray)=s7 at *
  generalize hnd Hs z1=y1 at *
  generalize hnd Hs z2=y2 at *
  generalize hnd Hs z3=y3 at *
  generalize hnd Hs z4=y4 at *
  go_upto_region 6 with fail
  go_cut [8,9] (fun pv qv wx=>MaC wr [.int .i64 y0,.int .i64 y1,.int .i64 y2,.int .i64 y3,.int .i64 y4,.int .i64 y5,.string t6,.string s7,.bool y8,.int .i64 y9,.int .i64 y10] [.int .i64 y0,.int .i64 z1,.int .i64 z2,.int .i64 z3,.int .i64 z4,.int .i64 y5,.string t6,.string t7,.bool z8,.int .i64 y9,.int .i64 y10] pv qv wx)
  case first =>
   clear HH1 HH2 HH3 HH4 HH H1 H2
   go_region
   all_goals
    go_wp2_with fail
    go_meet
    first
    | exact⟨_,_,rfl,rfl,blk_drew (blk_at (by simp)),blk_drew (Blk.alloc (blk_at rfl) _),(((Below.refl wr.heap.size wr).alloc (Nat.le_refl _) _).alloc (by simp) _).drew⟩
    | exact⟨_,_,rfl,rfl,blk_drew (Blk.alloc (blk_at rfl) _),blk_drew (blk_at (by simp)),(((Below.refl wr.heap.size wr).alloc (Nat.le_refl _) _).alloc (by simp) _).drew⟩
  case rest =>
   obtain⟨pa,qb,rfl,rfl,ka,kb,hb8⟩:=hcut
   clear q0 q1 q2 q3 q4 q5 q6 q7 q8 q9 q10 p0 p1 p2 p3 p4 p5 p6 p7 p8 p9 p10 HH H1 H2
   have HB8:=Lib.hid (hB.trans (hb8.mono hB.size))
   go_upto_region 7 with fail
   have hne:=stb_ne wc
   have xa:=fun(x:InS (StB wc))=>ka.below x.h
   have xb:=fun(x:InS (StB wc))=>kb.below x.h
   have a0:=fun x=>(xa x).cell 0
   have b0:=fun x=>(xb x).cell 0
   have a1:=fun x=>(xa x).cell 1
   have b1:=fun x=>(xb x).cell 1
   have a2:=fun x=>(xa x).cell 2
   have b2:=fun x=>(xb x).cell 2
   have a3:=fun x=>(xa x).cell 3
   have b3:=fun x=>(xb x).cell 3
   have a4:=fun x=>(xa x).cell 4
   have b4:=fun x=>(xb x).cell 4
   have a5:=fun x=>(xa x).cell 5
   have b5:=fun x=>(xb x).cell 5
   have a6:=fun x=>(xa x).cell 6
   have b6:=fun x=>(xb x).cell 6
   have a7:=fun x=>(xa x).cell 7
   have b7:=fun x=>(xb x).cell 7
   have a8:=fun x=>(xa x).cell 8
   have b8:=fun x=>(xb x).cell 8
   have a9:=fun x=>(xa x).cell 9
   have b9:=fun x=>(xb x).cell 9
   have a10:=fun x=>(xa x).cell 10
   have b10:=fun x=>(xb x).cell 10
   simp only [zzD,zzE] at a0 a1 a2 a3 a4 a5 a6 a7 a8 a9 a10 b0 b1 b2 b3 b4 b5 b6 b7 b8 b9 b10
   clear xa xb ka kb
   refine reg_st (StB wc) (fun _=>StB wc) (by kernel_rfl) (by kernel_rfl) (by kernel_rfl) (fun _ _ h=>h) ((Below.refl _ _).drew) ?_
   (try simp only [List.append_eq,List.cons_append,List.nil_append])
   repeat (first
    | (refine st_held (by rfl) (fun K hK=>?_);go_big_quiet_step (fail);refine wpQuiet_nil ?_;refine hK.out _ ?_;clear hK K)
    | (refine st_skip (by rfl) ?_;simp only [Act.put,zzA,zzB,zzC]))
   refine st_call (.int .i64 y1) (by rfl) (by rfl) (fun w=>by go_simp;exact⟨rfl,rfl⟩) ?_ ?_
   ·intro wx hx
    refine(HH1.out _ (bthen HB8.out hx)).mono ?_
    rintro e wy ⟨rfl,hb⟩
    exact⟨rfl,by rw [hb];exact hx⟩
   simp only [Act.put,zzA,zzB,zzC]
   repeat (first
    | (refine st_held (by rfl) (fun K hK=>?_);go_big_quiet_step (fail);refine wpQuiet_nil ?_;refine hK.out _ ?_;clear hK K)
    | (refine st_skip (by rfl) ?_;simp only [Act.put,zzA,zzB,zzC]))
   refine st_call (.int .i64 y2) (by rfl) (by rfl) (fun w=>by go_simp;exact⟨rfl,rfl⟩) ?_ ?_
   ·intro wx hx
    refine(HH2.out _ (bthen HB8.out hx)).mono ?_
    rintro e wy ⟨rfl,hb⟩
    exact⟨rfl,by rw [hb];exact hx⟩
   simp only [Act.put,zzA,zzB,zzC]
   repeat (first
    | (refine st_held (by rfl) (fun K hK=>?_);go_big_quiet_step (fail);refine wpQuiet_nil ?_;refine hK.out _ ?_;clear hK K)
    | (refine st_skip (by rfl) ?_;simp only [Act.put,zzA,zzB,zzC]))
   refine st_call (.int .i64 y3) (by rfl) (by rfl) (fun w=>by go_simp;exact⟨rfl,rfl⟩) ?_ ?_
   ·intro wx hx
    refine(HH3.out _ (bthen HB8.out hx)).mono ?_
    rintro e wy ⟨rfl,hb⟩
    exact⟨rfl,by rw [hb];exact hx⟩
   simp only [Act.put,zzA,zzB,zzC]
   repeat (first
    | (refine st_held (by rfl) (fun K hK=>?_);go_big_quiet_step (fail);refine wpQuiet_nil ?_;refine hK.out _ ?_;clear hK K)
    | (refine st_skip (by rfl) ?_;simp only [Act.put,zzA,zzB,zzC]))
   refine st_call (.int .i64 y4) (by rfl) (by rfl) (fun w=>by go_simp;exact⟨rfl,rfl⟩) ?_ ?_
   ·intro wx hx
    refine(HH4.out _ (bthen HB8.out hx)).mono ?_
    rintro e wy ⟨rfl,hb⟩
    exact⟨rfl,by rw [hb];exact hx⟩
   simp only [Act.put,zzA,zzB,zzC]
   repeat (first
    | (refine st_held (by rfl) (fun K hK=>?_);go_big_quiet_step (fail);refine wpQuiet_nil ?_;refine hK.out _ ?_;clear hK K)
    | (refine st_skip (by rfl) ?_;simp only [Act.put,zzA,zzB,zzC]))
   refine st_nil ?_
   intro w9 hb9
   have HB9:=Lib.hid (bthen HB8.out hb9)
   clear a0 a1 a2 a3 a4 a5 a6 a7 a8 a9 a10 b0 b1 b2 b3 b4 b5 b6 b7 b8 b9 b10 hne hb9
   go_wp2_with fail
   go_ret
   exact⟨rfl,HB9.out⟩
theorem match_old_b {w:World}{g:Nat}{a b hv v1 v2:Value}{Hs:List Int}{l m:List Rc}(h:Blk w g [a,b,hv] 33)(ho:Own w 3 1 hv Hs.length (hC Hs))(hl:Hs.length≤100000){y z:Rc}(h1:Own w 41 11 v1 1 (rows encR [y]))(h2:Own w 144 11 v2 1 (rows encR [z]))
  (hyz:y={ cvR Hs z with old:=y.old,had:=y.had })(hzr:HndOk z.target∧HndOk z.node∧HndOk z.prev∧HndOk z.next)(hne:y.old=z.old∧y.had≠z.had) :
  Calls Tryz.prog 50 #[.pointer (some ⟨g,0,none⟩),v1,v2] w fun e w'=>e=.returned (.bool false)∧Below w.heap.size w w':=by
 obtain⟨a1,c1,rfl⟩:=own_shape h1
 obtain⟨a2,c2,rfl⟩:=own_shape h2
 have H1:=Lib.hid h1
 have H2:=Lib.hid h2
 have HH:=Lib.hid (fun wx (hb:Below w.heap.size w wx) v (hv:HndOk v)=>thandle_any (h.below hb) (own_belowM ho hb) hl v hv.1 hv.2)
 clear h1 h2 h ho
 go_enter Tryz.func50,Tryz.ntmps50
 go_wp2_with fail
 go_loopw [7] (fun iv wr=>iv=.int .i64 0∧Below w.heap.size w wr) (fun iv _=>0)
 case atStart=>exact⟨rfl,Below.refl _ _⟩
 case round =>
  obtain⟨rfl,hB⟩:=hrel
  have hki:(0:Int) < (1:Int):=by omega
  obtain⟨g1,k1,he,qlt,q0,q1,q2,q3,q4,q5,q6,q7,q8,q9,q10⟩:=r_cells (l:=[y]) (own_belowM H1.out hB) (k:=0) rfl
  simp only [Value.slice.injEq,true_and,List.length_singleton] at he
  obtain⟨rfl,rfl⟩:=he
  obtain⟨g2,k2,he,plt,p0,p1,p2,p3,p4,p5,p6,p7,p8,p9,p10⟩:=rm_cells (l:=[z]) (own_belowM H2.out hB) (k:=0) rfl
  simp only [Value.slice.injEq,true_and,List.length_singleton] at he
  obtain⟨rfl,rfl⟩:=he
  obtain⟨z0,z1,z2,z3,z4,z5,z6,z7,z8,z9,z10⟩:=z
  obtain⟨y0,_,_,_,_,y5,y6,y7,y8,y9,y10⟩:=y
  simp only [cvR,Rc.mk.injEq,and_true,true_and] at hyz
  obtain⟨rfl,rfl,rfl,rfl,rfl,rfl,rfl,rfl,rfl⟩:=hyz
  simp only [Nat.zero_mul,Nat.zero_add] at q0 q1 q2 q3 q4 q5 q6 q7 q8 q9 q10 p0 p1 p2 p3 p4 p5 p6 p7 p8 p9 p10 hzr
  obtain⟨r1,r2,r3,r4⟩:=hzr
  have HH1:=Lib.hid (fun wx hb=>HH.out wx hb z1 r1)
  have HH2:=Lib.hid (fun wx hb=>HH.out wx hb z2 r2)
  have HH3:=Lib.hid (fun wx hb=>HH.out wx hb z3 r3)
  have HH4:=Lib.hid (fun wx hb=>HH.out wx hb z4 r4)
  clear r1 r2 r3 r4
  generalize (⟨y6.toArray⟩:ByteArray)=t6 at *
  obtain⟨h7,h8⟩:=hne
  simp only at h7 h8
  subst h7
  have hb:(y8 != z8)=true:=by cases y8 <;> cases z8 <;> simp_all
  have hb2:(y8 == z8)=false:=by cases y8 <;> cases z8 <;> simp_all
  generalize (⟨y7.toArray⟩:ByteArray)=t7 at *
  generalize hnd Hs z1=y1 at *
  generalize hnd Hs z2=y2 at *
  generalize hnd Hs z3=y3 at *
  generalize hnd Hs z4=y4 at *
  go_upto_region 6 with fail
  go_cut [8,9] (fun pv qv wx=>MaC wr [.int .i64 y0,.int .i64 y1,.int .i64 y2,.int .i64 y3,.int .i64 y4,.int .i64 y5,.string t6,.string t7,.bool y8,.int .i64 y9,.int .i64 y10] [.int .i64 y0,.int .i64 z1,.int .i64 z2,.int .i64 z3,.int .i64 z4,.int .i64 y5,.string t6,.string t7,.bool z8,.int .i64 y9,.int .i64 y10] pv qv wx)
  case first =>
   clear HH1 HH2 HH3 HH4 HH H1 H2
   go_region
   all_goals
    go_wp2_with fail
    go_meet
    first
    | exact⟨_,_,rfl,rfl,blk_drew (blk_at (by simp)),blk_drew (Blk.alloc (blk_at rfl) _),(((Below.refl wr.heap.size wr).alloc (Nat.le_refl _) _).alloc (by simp) _).drew⟩
    | exact⟨_,_,rfl,rfl,blk_drew (Blk.alloc (blk_at rfl) _),blk_drew (blk_at (by simp)),(((Below.refl wr.heap.size wr).alloc (Nat.le_refl _) _).alloc (by simp) _).drew⟩
  case rest =>
   obtain⟨pa,qb,rfl,rfl,ka,kb,hb8⟩:=hcut
   clear q0 q1 q2 q3 q4 q5 q6 q7 q8 q9 q10 p0 p1 p2 p3 p4 p5 p6 p7 p8 p9 p10 HH H1 H2
   have HB8:=Lib.hid (hB.trans (hb8.mono hB.size))
   go_upto_region 7 with fail
   have hne:=stb_ne wc
   have xa:=fun(x:InS (StB wc))=>ka.below x.h
   have xb:=fun(x:InS (StB wc))=>kb.below x.h
   have a0:=fun x=>(xa x).cell 0
   have b0:=fun x=>(xb x).cell 0
   have a1:=fun x=>(xa x).cell 1
   have b1:=fun x=>(xb x).cell 1
   have a2:=fun x=>(xa x).cell 2
   have b2:=fun x=>(xb x).cell 2
   have a3:=fun x=>(xa x).cell 3
   have b3:=fun x=>(xb x).cell 3
   have a4:=fun x=>(xa x).cell 4
   have b4:=fun x=>(xb x).cell 4
   have a5:=fun x=>(xa x).cell 5
   have b5:=fun x=>(xb x).cell 5
   have a6:=fun x=>(xa x).cell 6
   have b6:=fun x=>(xb x).cell 6
   have a7:=fun x=>(xa x).cell 7
   have b7:=fun x=>(xb x).cell 7
   have a8:=fun x=>(xa x).cell 8
   have b8:=fun x=>(xb x).cell 8
   have a9:=fun x=>(xa x).cell 9
   have b9:=fun x=>(xb x).cell 9
   have a10:=fun x=>(xa x).cell 10
   have b10:=fun x=>(xb x).cell 10
   simp only [zzD,zzE] at a0 a1 a2 a3 a4 a5 a6 a7 a8 a9 a10 b0 b1 b2 b3 b4 b5 b6 b7 b8 b9 b10
   clear xa xb ka kb
   refine reg_st (StB wc) (fun _=>StB wc) (by kernel_rfl) (by kernel_rfl) (by kernel_rfl) (fun _ _ h=>h) ((Below.refl _ _).drew) ?_
   (try simp only [List.append_eq,List.cons_append,List.nil_append])
   repeat (first
    | (refine st_held (by rfl) (fun K hK=>?_);go_big_quiet_step (fail);refine wpQuiet_nil ?_;refine hK.out _ ?_;clear hK K)
    | (refine st_skip (by rfl) ?_;simp only [Act.put,zzA,zzB,zzC]))
   refine st_call (.int .i64 y1) (by rfl) (by rfl) (fun w=>by go_simp;exact⟨rfl,rfl⟩) ?_ ?_
   ·intro wx hx
    refine(HH1.out _ (bthen HB8.out hx)).mono ?_
    rintro e wy ⟨rfl,hb⟩
    exact⟨rfl,by rw [hb];exact hx⟩
   simp only [Act.put,zzA,zzB,zzC]
   repeat (first
    | (refine st_held (by rfl) (fun K hK=>?_);go_big_quiet_step (fail);refine wpQuiet_nil ?_;refine hK.out _ ?_;clear hK K)
    | (refine st_skip (by rfl) ?_;simp only [Act.put,zzA,zzB,zzC]))
   refine st_call (.int .i64 y2) (by rfl) (by rfl) (fun w=>by go_simp;exact⟨rfl,rfl⟩) ?_ ?_
   ·intro wx hx
    refine(HH2.out _ (bthen HB8.out hx)).mono ?_
    rintro e wy ⟨rfl,hb⟩
    exact⟨rfl,by rw [hb];exact hx⟩
   simp only [Act.put,zzA,zzB,zzC]
   repeat (first
    | (refine st_held (by rfl) (fun K hK=>?_);go_big_quiet_step (fail);refine wpQuiet_nil ?_;refine hK.out _ ?_;clear hK K)
    | (refine st_skip (by rfl) ?_;simp only [Act.put,zzA,zzB,zzC]))
   refine st_call (.int .i64 y3) (by rfl) (by rfl) (fun w=>by go_simp;exact⟨rfl,rfl⟩) ?_ ?_
   ·intro wx hx
    refine(HH3.out _ (bthen HB8.out hx)).mono ?_
    rintro e wy ⟨rfl,hb⟩
    exact⟨rfl,by rw [hb];exact hx⟩
   simp only [Act.put,zzA,zzB,zzC]
   repeat (first
    | (refine st_held (by rfl) (fun K hK=>?_);go_big_quiet_step (fail);refine wpQuiet_nil ?_;refine hK.out _ ?_;clear hK K)
    | (refine st_skip (by rfl) ?_;simp only [Act.put,zzA,zzB,zzC]))
   refine st_call (.int .i64 y4) (by rfl) (by rfl) (fun w=>by go_simp;exact⟨rfl,rfl⟩) ?_ ?_
   ·intro wx hx
    refine(HH4.out _ (bthen HB8.out hx)).mono ?_
    rintro e wy ⟨rfl,hb⟩
    exact⟨rfl,by rw [hb];exact hx⟩
   simp only [Act.put,zzA,zzB,zzC]
   repeat (first
    | (refine st_held (by rfl) (fun K hK=>?_);go_big_quiet_step (fail);refine wpQuiet_nil ?_;refine hK.out _ ?_;clear hK K)
    | (refine st_skip (by rfl) ?_;simp only [Act.put,zzA,zzB,zzC]))
   refine st_nil ?_
   intro w9 hb9
   have HB9:=Lib.hid (bthen HB8.out hb9)
   clear a0 a1 a2 a3 a4 a5 a6 a7 a8 a9 a10 b0 b1 b2 b3 b4 b5 b6 b7 b8 b9 b10 hne hb9
   go_wp2_with fail
   go_ret
   exact⟨rfl,HB9.out⟩
theorem rcA_hnd {M:List MN}{i:Nat}{m:MN}(hi:lv M i=some m)(hl:M.length≤100000)(nm o:List UInt8)(h:Bool):HndOk (rcA i nm o h).target∧HndOk (rcA i nm o h).node∧HndOk (rcA i nm o h).prev∧HndOk (rcA i nm o h).next:=by
 have:=lv_live ⟨m,hi⟩
 exact⟨⟨by show(-100000:Int)≤(i:Int);omega,by show(i:Int)≤100000;omega⟩,⟨by show(-100000:Int)≤-1;omega,by show(-1:Int)≤100000;omega⟩,⟨by show(-100000:Int)≤-1;omega,by show(-1:Int)≤100000;omega⟩,⟨by show(-100000:Int)≤-1;omega,by show(-1:Int)≤100000;omega⟩⟩
theorem match_q {B:Nat}{w0 w:World}{l:List Ob}{g R Q:Nat}{hv sv fv nv v v2:Value}{S S':Tr}{X:List MX}{M:List MN}{σ : Nat→Nat}{ts rs:List Rc}{Hs:List Int}(hA:All B w0 (rl v ts :: (twL g R Q hv Hs S' sv fv nv X ++ l)) w)(hH:Hs=hsOf S σ M)(hl:M.length≤100000)(hts:ts.length≤100)
  (hq:MatchQ M S σ ts rs)(h2:Own w 144 11 v2 rs.length (rows encR rs)) :
  Calls Tryz.prog 50 #[.pointer (some ⟨g,0,none⟩),v,v2] w fun e w'=>∃b,e=.returned (.bool b)∧(ts=rs.map (trR S σ)→b=true)∧Below w.heap.size w w':=by
 have h1:Own w 41 11 v ts.length (rows encR ts):=hA.head
 have hb:=tw_bk hA.tail
 have ho:=tw_hs hA.tail
 have hHl:Hs.length≤100000:=by rw [hH,hsOf_len];exact hl
 cases hq with
 | same h hr =>
  have hcv:=cv_tr (S:=S) (σ:=σ) hr hl
  refine(match_true hb ho hHl h1 h2 (by rw [h,hH,hcv]) (fun r hr'=>?_) hts).mono ?_
  ·obtain⟨f1,f2,f3,f4⟩:=hr r hr'
   exact⟨(fld_hnd (S:=S) (σ:=σ) f1 hl).1,(fld_hnd (S:=S) (σ:=σ) f2 hl).1,(fld_hnd (S:=S) (σ:=σ) f3 hl).1,(fld_hnd (S:=S) (σ:=σ) f4 hl).1⟩
  ·rintro e w' ⟨rfl,hb⟩
   exact⟨true,rfl,fun _=>rfl,hb⟩
 | len h =>
  refine(match_len h1 h2 h).mono ?_
  rintro e w' ⟨rfl,hw⟩
  exact⟨false,rfl,fun e=>absurd (by rw [e,List.length_map]) h,by rw [hw];exact Below.refl _ _⟩
 | old i nm o1 o2 b1 b2 ht hr hi hne =>
  obtain⟨m,hi⟩:=hi
  have hok:=rcA_ok hi nm o1 b1 (rcA i nm o1 b1) (by simp)
  have hcv:=cv_tr (S:=S) (σ:=σ) (rcA_ok hi nm o1 b1) hl
  simp only [List.map_cons,List.map_nil,List.cons.injEq,and_true] at hcv
  subst ht hr
  have hno:¬([trR S σ (rcA i nm o1 b1)]=[rcA i nm o2 b2].map (trR S σ)):=fun e=>by
   simp only [List.map_cons,List.map_nil,List.cons.injEq,and_true] at e
   have e1:o1=o2:=congrArg Rc.old e
   have e2:b1=b2:=congrArg Rc.had e
   rcases hne with h | h
   ·exact h e1
   ·exact h e2
  have hyz:trR S σ (rcA i nm o1 b1)={ cvR Hs (rcA i nm o2 b2) with old:=(trR S σ (rcA i nm o1 b1)).old,had:=(trR S σ (rcA i nm o1 b1)).had }:=by rw [← hcv,hH];rfl
  by_cases e1:o1=o2
  ·refine(match_old_b (l:=[]) (m:=[]) hb ho hHl h1 h2 hyz (rcA_hnd hi hl _ _ _) ⟨e1,(hne.resolve_left (fun h=>h e1))⟩).mono ?_
   rintro e w' ⟨rfl,hb⟩
   exact⟨false,rfl,fun e=>absurd e hno,hb⟩
  ·refine(match_old_a (l:=[]) (m:=[]) hb ho hHl h1 h2 hyz (rcA_hnd hi hl _ _ _) e1).mono ?_
   rintro e w' ⟨rfl,hb⟩
   exact⟨false,rfl,fun e=>absurd e hno,hb⟩
theorem encR_inj {a b:Rc}(h:encR a=encR b):a=b:=by
 obtain⟨a0,a1,a2,a3,a4,a5,a6,a7,a8,a9,a10⟩:=a
 obtain⟨b0,b1,b2,b3,b4,b5,b6,b7,b8,b9,b10⟩:=b
 simp [encR,recC,strV] at h
 simp [h]
theorem encs_inj:∀{a b:List Rc},a.map encR=b.map encR→a=b
 | [],[],_=>rfl
 | [],_ :: _,h=>by simp at h
 | _ :: _,[],h=>by simp at h
 | x :: a,y :: b,h=>by
  simp only [List.map_cons,List.cons.injEq] at h
  rw [encR_inj h.1,encs_inj h.2]
theorem box_keep {R r:Nat}{S S':Tr}{sv fv sv' fv':Value}{w w':World}{cs:List Value}(h:Blk w r cs 39)(k:TrOut R S sv fv w S' sv' fv' w')(hT:TAt 0 R S sv fv w):Blk w' r cs 39 :=
 h.kept (k.chg.block r h.lt (fun hf=>by
  rcases hf with e | e | e | ⟨i,n,hi,hne,e⟩
  ·exact blk_ne hT.blk h (by decide) e.symm
  ·obtain⟨cur,hc⟩:=own_ty hT.slots e;exact blk_ne hc h (by decide) rfl
  ·obtain⟨cur,hc⟩:=own_ty hT.free e;exact blk_ne hc h (by decide) rfl
  ·obtain⟨cur,hc⟩:=attr_blk (hT.attrs i n (at_slot hi)) hne e;exact blk_ne hc h (by decide) rfl))
section
variable {ex : Prop} {E : Nat → Prop} {c x : Nat} {B : Nat} {w0 w' : World} {l : List Ob} {g R Q : Nat} {hv sv fv nv v : Value} {S S' : Tr} {K : Nat → List Nat} {d : Nat → Nat} {M : List MN} {X' : List MX} {σ : Nat → Nat} {o : OpV} {ts rs : List Rc} {Hs : List Int}
theorem sExt_old {n:Nat}{l:List Nat}{i:Nat}(h:i < n):sExt n σ l i=σ i:=by unfold sExt;rw [if_pos h]
theorem do_close {ls:List (List Value)}{er en:Int}{ok:Bool}(T:TwS ex E c x S K d M σ)(hb:Both ex E c S K M σ S' ls er (ms X') rs en)(hA:All B w0 (rl v ts :: (twL g R Q hv Hs S' sv fv nv X' ++ l)) w')(hH:Hs=hsOf S σ M)
  (hok:ex→ok=true∧ts=rs.map (trR S σ))(hst:MStep M (fun i=>d (σ i)) o (ms X') rs)(hk:o.k % 10≠9):DoR ex E c x B w0 l g R Q S K d M σ o (.returned (.tuple #[v,.bool ok])) w':=by
 obtain⟨K',d',h1,h2,h3,h4⟩:=hb.st
 have hlen:=hb.len
 refine⟨v,ok,S',K',d',X',σ,hv,sv,fv,nv,ts,rs,[],rfl,?_,⟨h1,h2,h4,?_⟩,hok,hb.b,hb.s,h3,hst,⟨fun i m hi=>?_,?_⟩,.inl ⟨hk,rfl⟩⟩
 ·rw [hb.hs,← hH];exact hA
 ·have:=T.lim
  have e:S'.slots.length=S.slots.length:=congrArg Prod.snd hb.fl
  omega
 ·have:=lv_live ⟨m,hi⟩
  rw [sExt_old (by omega)]
 ·rw [hlen,Nat.sub_self,hb.fl];simp [nxN]
theorem do_off {X:List MX}(T:TwS ex E c x S K d (ms X) σ)(hA:All B w0 (twL g R Q hv Hs S sv fv nv X ++ l) w')(hH:Hs=hsOf S σ (ms X))(hk3:3≤o.k % 10)(hoff:lv (ms X) (o.iA (ms X).length)=none∨(o.k % 10=3∧(lv (ms X) (o.iB (ms X).length)=none∨∃q,o.iC (ms X).length=some q∧lv (ms X) q=none)))(hk:o.k % 10≠9) :
  DoR ex E c x B w0 l g R Q S K d (ms X) σ o (.returned (.tuple #[.slice none 0 0,.bool true])) w' :=
 do_close (er:=6) (en:=6) (ls:=[]) T (both_nil T.ok T.tw T.cl 6) (hA.nil _ _) hH (fun _=>⟨rfl,rfl⟩) (.off hk3 hoff) hk
end
theorem reg_g {P:Program}{id:Nat}{Q':Exit→Act→World→Prop}{a:Act}{w:World}{ls:List Oper}(S:World→Prop)(F:List Value→World→Prop)(V:List Value→Value→Prop)(m:Nat)
  (hm:P.follows .mixedOrders=true)(hB:all4 .any ls.toArray m (ls.length - m)=true)(hS:∀k w',F k w'→S w')(hF:∀k w1 w2,F k w1→Below w1.heap.size w1 w2→F k w2)(h0:F [] w)
  (h:RV.wp4 P ls.toArray ⟨S,fun k X w'=>F k w',V,fun _ _=>undef,fun _=>[],fun _=>0⟩ (fun k X a'=>∀w',F k w'→wpList P ls.toArray Q' (ls.drop m) a' w') 0 [] [] (ls.take m) a):(Code.region id ls.toArray true).wp P Q' a w :=
 RV.reg_m ⟨S,fun k X w'=>F k w',V,fun _ _=>undef,fun _=>[],fun _=>0⟩ m hm hB (fun k X w h=>hS k w h) (fun k X w' cs ty h=>hF k _ _ h ((Below.refl _ _).alloc (Nat.le_refl _) _)) (fun k X Y w hp h=>h) (hF [] _ _ h0 ((Below.refl _ _).drew)) h
structure DoS (g R Q gh i b:Nat) (hv:Value) (hd:Int) (o:OpV) (w:World):Prop where
 bk:Blk w g [.pointer (some ⟨R,0,none⟩),.pointer (some ⟨Q,0,none⟩),hv] 33
 hc:w.cell? ⟨gh,i,none⟩=some (.int .i64 hd)
 bx:Blk w b (opC o) 39
structure DoM (g R Q b:Nat) (hv:Value) (o:OpV) (w:World):Prop where
 bk:Blk w g [.pointer (some ⟨R,0,none⟩),.pointer (some ⟨Q,0,none⟩),hv] 33
 bx:Blk w b (opC o) 39
section
variable {B : Nat} {w0 w w' : World} {l : List Ob} {g R Q b gh n vc i : Nat} {hv sv fv nv : Value} {S : Tr} {X : List MX} {Hs : List Int} {o : OpV} {hd : Int} {Res : Tr → List (List Value) → Int → Prop} {MR : List MN → List Rc → Int → Prop}
def TRes (B:Nat)(w0:World)(l:List Ob)(g R Q:Nat)(hv:Value)(Hs:List Int)(nv:Value)(X:List MX)(b:Nat)(o:OpV)(Res:Tr→List (List Value)→Int→Prop)(v:Value)(w':World):Prop :=
 ∃S' sv' fv' v0 ts er,v=.tuple #[v0,.int .i64 er]∧Res S' (ts.map encR) er∧All B w0 (rl v0 ts :: (twL g R Q hv Hs S' sv' fv' nv X ++ l)) w'∧Blk w' b (opC o) 39
def TF (w:World)(P:Value→World→Prop):List Value→World→Prop
 | [],w'=>StB w w'
 | [v],w'=>P v w'
 | _ :: _ :: _,_=>False
theorem tf_below {P:Value→World→Prop}(hP:∀v w1 w2,P v w1→Below w1.heap.size w1 w2→P v w2)(k:List Value)(w1 w2:World)(h:TF w P k w1)(hb:Below w1.heap.size w1 w2):TF w P k w2:=by
 match k,h with
 | [],h=>exact bthen h hb
 | [v],h=>exact hP v w1 w2 h hb
theorem tf_S {P:Value→World→Prop}{C:World→Prop}(h0:∀w',StB w w'→C w')(hP:∀v w',P v w'→C w')(k:List Value)(w':World)(h:TF w P k w'):C w':=by
 match k,h with
 | [],h=>exact h0 w' h
 | [v],h=>exact hP v w' h
theorem tres_below (v:Value)(w1 w2:World)(h:TRes B w0 l g R Q hv Hs nv X b o Res v w1)(hb:Below w1.heap.size w1 w2):TRes B w0 l g R Q hv Hs nv X b o Res v w2:=by
 obtain⟨S',sv',fv',v0,ts,er,e,hr,hA,hk⟩:=h
 exact⟨S',sv',fv',v0,ts,er,e,hr,hA.still hb,hk.below hb⟩
theorem tres_of (hA:All B w0 (twL g R Q hv Hs S sv fv nv X ++ l) w)(hk:Blk w b (opC o) 39){e:Ending}(h:OpT R S sv fv w Res e w'):∃v,e=.returned v∧(∃v0 er,v=.tuple #[v0,.int .i64 er])∧TRes B w0 l g R Q hv Hs nv X b o Res v w':=by
 obtain⟨S',sv',fv',v,ls,er,hres,rfl,hrc,hTo,ts,hts⟩:=h
 rw [hts] at hrc hres
 exact⟨_,rfl,⟨_,_,rfl⟩,S',sv',fv',v,ts,er,rfl,hres,hTo.rec_ (RcAt.row hrc) hA,box_keep hk hTo (tw_tr hA)⟩
theorem doS_0 (hA:All B w0 (twL g R Q (.slice (some ⟨gh,0,none⟩) n vc) Hs S sv fv nv X ++ l) w)(hk:Blk w b (opC o) 39)(hc:w.cell? ⟨gh,i,none⟩=some (.int .i64 hd))(w':World)(h:StB w w'):DoS g R Q gh i b (.slice (some ⟨gh,0,none⟩) n vc) hd o w' :=
 ⟨tw_bk (hA.still h),cell_keep h hc,hk.below h⟩
theorem doS_1 (hn:Hs.length=n)(hi:Hs[i]? = some hd)(v:Value)(w':World)(h:TRes B w0 l g R Q (.slice (some ⟨gh,0,none⟩) n vc) Hs nv X b o Res v w'):DoS g R Q gh i b (.slice (some ⟨gh,0,none⟩) n vc) hd o w':=by
 obtain⟨S',sv',fv',v0,ts,er,e,hr,hA,hk⟩:=h
 obtain⟨gh',e2,_,hc⟩:=tw_hcell hA.tail hn i hd hi
 cases e2
 exact⟨tw_bk hA.tail,hc,hk⟩
def MRes (B:Nat)(w0:World)(l:List Ob)(g R Q:Nat)(hv:Value)(Hs:List Int)(S:Tr)(sv fv v0:Value)(ts:List Rc)(b:Nat)(o:OpV)(MR:List MN→List Rc→Int→Prop)(v:Value)(w':World):Prop :=
 ∃X' nv' v2 rs en,v=.tuple #[v2,.int .i64 en]∧MR (ms X') rs en∧All B w0 (rl v0 ts :: (twL g R Q hv Hs S sv fv nv' X' ++ l)) w'∧Own w' 144 11 v2 rs.length (rows encR rs)∧Blk w' b (opC o) 39
theorem mres_below {v0:Value}{ts:List Rc}(v:Value)(w1 w2:World)(h:MRes B w0 l g R Q hv Hs S sv fv v0 ts b o MR v w1)(hb:Below w1.heap.size w1 w2):MRes B w0 l g R Q hv Hs S sv fv v0 ts b o MR v w2:=by
 obtain⟨X',nv',v2,rs,en,e,hr,hA,ho,hk⟩:=h
 exact⟨X',nv',v2,rs,en,e,hr,hA.still hb,own_belowM ho hb,hk.below hb⟩
theorem mbox_keep {X':List MX}{nv':Value}{cs:List Value}(hk:Blk w b cs 39)(hM:MdAt Q nv X w)(k:MdOut Q nv X w nv' X' w'):Blk w' b cs 39 :=
 hk.kept (k.chg.block b hk.lt (fun hf=>by
  rcases hf with e | e | ⟨x,hx,e | e⟩
  ·exact blk_ne hM.W.blk hk (by decide) e.symm
  ·obtain⟨cur,hc⟩:=own_ty hM.W.row e;exact blk_ne hc hk (by decide) rfl
  ·obtain⟨cur,hc⟩:=own_ty (hM.W.att x hx) e;exact blk_ne hc hk (by decide) rfl
  ·obtain⟨cur,hc⟩:=own_ty (hM.W.kid x hx) e;exact blk_ne hc hk (by decide) rfl))
theorem mres_of {v0:Value}{ts:List Rc}{gm cap:Nat}(hA:All B w0 (rl v0 ts :: (twL g R Q hv Hs S sv fv (.slice (some ⟨gm,0,none⟩) X.length cap) X ++ l)) w)(hk:Blk w b (opC o) 39){e:Ending}(h:MOut Q gm cap X w MR e w'):∃v,e=.returned v∧(∃v2 en,v=.tuple #[v2,.int .i64 en])∧MRes B w0 l g R Q hv Hs S sv fv v0 ts b o MR v w':=by
 obtain⟨X',v,rs,en,hr,rfl,ho,hM⟩:=h
 exact⟨_,rfl,⟨_,_,rfl⟩,X',_,v,rs,en,rfl,hr,hM.tw hA,own_low ho (Nat.zero_le _),mbox_keep hk (tw_md hA.tail) hM⟩
def DoS3 (g R Q gh i j b:Nat)(hv:Value)(hd hdb:Int)(o:OpV)(w:World):Prop:=DoS g R Q gh i b hv hd o w∧w.cell? ⟨gh,j,none⟩=some (.int .i64 hdb)
def TF3 (w:World)(P:Value→World→Prop):List Value→World→Prop
 | [],w'=>StB w w'
 | [_],w'=>StB w w'
 | [v,_],w'=>P v w'
 | _ :: _ :: _ :: _,_=>False
theorem tf3_below {P:Value→World→Prop}(hP:∀v w1 w2,P v w1→Below w1.heap.size w1 w2→P v w2)(k:List Value)(w1 w2:World)(h:TF3 w P k w1)(hb:Below w1.heap.size w1 w2):TF3 w P k w2:=by
 match k,h with
 | [],h=>exact bthen h hb
 | [_],h=>exact bthen h hb
 | [v,_],h=>exact hP v w1 w2 h hb
theorem tf3_S {P:Value→World→Prop}{C:World→Prop}(h0:∀w',StB w w'→C w')(hP:∀v w',P v w'→C w')(k:List Value)(w':World)(h:TF3 w P k w'):C w':=by
 match k,h with
 | [],h=>exact h0 w' h
 | [_],h=>exact h0 w' h
 | [v,_],h=>exact hP v w' h
theorem doS_1b {j:Nat}{hdb:Int}(hn:Hs.length=n)(hi:Hs[j]? = some hdb)(v:Value)(w':World)(h:TRes B w0 l g R Q (.slice (some ⟨gh,0,none⟩) n vc) Hs nv X b o Res v w'):w'.cell? ⟨gh,j,none⟩=some (.int .i64 hdb):=by
 obtain⟨S',sv',fv',v0,ts,er,e,hr,hA,hk⟩:=h
 obtain⟨gh',e2,_,hc⟩:=tw_hcell hA.tail hn j hdb hi
 cases e2
 exact hc
theorem mins_any {gm cap:Nat}{D:Nat→Nat}(h:MdAt Q (.slice (some ⟨gm,0,none⟩) X.length cap) X w)(hW:MW (ms X) D){p c:Nat}{mp mc:MN}(hp:lv (ms X) p=some mp)(hc:lv (ms X) c=some mc)(oq:Option Nat)(hol:∀q,oq=some q→∃mq,lv (ms X) q=some mq) :
  Calls Tryz.prog 43 #[.pointer (some ⟨Q,0,none⟩),.int .i64 (p:Int),.int .i64 (c:Int),.int .i64 (pI oq)] w (MOut Q gm cap X w (MInsA (ms X) D p c oq mp mc)):=by
 have hnil:∀w' en,w'=w→MInsA (ms X) D p c oq mp mc (ms X) [] en→MOut Q gm cap X w (MInsA (ms X) D p c oq mp mc) (.returned (.tuple #[.slice none 0 0,.int .i64 en])) w':=fun w' en hw hm=>by
  subst hw
  exact⟨X,_,[],en,hm,rfl,World.ownsRow_nil _ _ _ _,MdOut.refl h (Below.refl _ _)⟩
 cases hch:mchB (ms X) D p c mp mc with
 | false =>
  refine(mins_no h hW hc hp (pI oq) hch).mono ?_
  rintro e w' ⟨rfl,hw⟩
  exact hnil w' 10 hw (.no hch)
 | true =>
  by_cases hin:∀b,oq=some b→∃mb,lv (ms X) b=some mb∧mb.par=some p
  ·by_cases hd:D p+hgt (kM (ms X)) (128 - D c) c≤128
   ·have hpc:p≠c:=fun e=>by
     subst e
     have hd1:=hW.dpos hp
     unfold mchB at hch
     split at hch
     ·cases hch
     ·rename_i hno
      refine hno (.inr ?_)
      obtain⟨t,ht⟩:∃t,D p=t+1:=⟨D p - 1,by omega⟩
      rw [ht]
      simp [mcont]
    refine(mins_ok h hW hc hp hpc oq hin hch hd).mono ?_
    rintro e w' ⟨X',v,rs,hm,rfl,ho,hM⟩
    exact⟨X',v,rs,0,.ok _ rs hch hin hd hm,rfl,ho,hM⟩
   ·refine(mins_far h hW hc hp oq hin hch (by omega)).mono ?_
    rintro e w' ⟨rfl,hw⟩
    exact hnil w' 5 hw (.far hch hin (by omega))
  ·obtain⟨b,rfl,mb,hb,hbp⟩:∃b,oq=some b∧∃mb,lv (ms X) b=some mb∧mb.par≠some p:=by
    cases oq with
    | none=>exact absurd (fun b hb=>by cases hb) hin
    | some b =>
     obtain⟨mb,hb⟩:=hol b rfl
     exact⟨b,rfl,mb,hb,fun e=>hin (fun b' e'=>by cases e';exact⟨mb,hb,e⟩)⟩
   refine(mins_other h hW hc hp hb hch hbp).mono ?_
   rintro e w' ⟨rfl,hw⟩
   exact hnil w' 10 hw (.other b mb hch rfl hb hbp)
end
section
variable {ex : Prop} {E : Nat → Prop} {c x : Nat} {S : Tr} {K : Nat → List Nat} {d : Nat → Nat} {M : List MN} {σ : Nat → Nat} {R : Nat} {sv fv : Value} {w : World}
inductive DroT (S:Tr) (K:Nat→List Nat) (d:Nat→Nat) (i:Nat) (n:Nd):Tr→Int→Prop
 | held (h:n.parent≠0∨n.kind=1):DroT S K d i n S 7
 | ok (h1:n.parent=0) (h2:n.kind≠1):DroT S K d i n (S.goneL (wlk K (128 - d i) i)) 0
theorem top_par (L:Lk S K d){i:Nat}{n:Nd}(hi:S.at i=some n)(hp:n.parent=0):∀q,i∉K q:=fun q hq=>by
 obtain⟨j,hj⟩:=List.mem_iff_getElem?.1 hq
 obtain⟨nq,hnq⟩:=Option.isSome_iff_exists.1 (L.kin q i hq).1
 have h1:=(L.kid q j i n hj hi).1
 have:=(hd_ok L hnq).2
 omega
theorem tdro_any (h:TAt 0 R S sv fv w)(T:TrOk c S K d)(i:Nat)(n:Nd)(hi:S.at i=some n)(hs:S.slots.length≤3000) :
  Calls Tryz.prog 25 #[.pointer (some ⟨R,0,none⟩),.int .i64 (S.hd i)] w fun e w'=>∃S' sv' fv' er,DroT S K d i n S' er∧e=.returned (.int .i64 er)∧TrOut R S sv fv w S' sv' fv' w':=by
 obtain⟨g,cap,rfl⟩:=slots_some h (by have:=at_lt hi;omega)
 have hfl:=T.freel
 by_cases hp:n.parent=0
 ·by_cases hk:n.kind=1
  ·refine(tdrop_held h T.lk i n hi (.inr hk)).mono ?_
   rintro e w' ⟨rfl,hb⟩
   exact⟨S,_,_,7,.held (.inr hk),rfl,TrOut.refl h hb⟩
  ·refine(tdrop_ok h T.lk i n hi hp hk (by omega)).mono ?_
   rintro e w' ⟨fv',rfl,hT,hC,hfv⟩
   have h0:i≠0:=fun e=>by
    obtain⟨n0,h1,h2⟩:=T.doc
    rw [e,h1] at hi;cases hi;exact hk h2
   have F:=falls_wlk T hi (top_par T.lk hi hp) h0
   refine⟨_,_,fv',0,.ok hp hk,rfl,hT,hC.mono (fun k _ hk=>?_),fun k hk=>?_⟩
   ·rcases hk with e | e | e
    ·exact .inl e
    ·exact .inr (.inl (by rw [e];rfl))
    ·exact .inr (.inr (.inl e))
   ·rcases hk with e | e | e | ⟨y,m,hy,hne,e⟩
    ·exact .inl (.inl e)
    ·exact .inl (.inr (.inl e))
    ·rcases hfv with e2 | ⟨q,e2,hq⟩
     ·exact .inl (.inr (.inr (.inl (e2 ▸ e))))
     ·rw [e2] at e;cases e;exact .inr hq
    ·rw [goneL_at F] at hy
     split at hy
     ·cases hy
     ·exact .inl (.inr (.inr (.inr ⟨y,m,hy,hne,e⟩)))
 ·refine(tdrop_held h T.lk i n hi (.inl hp)).mono ?_
  rintro e w' ⟨rfl,hb⟩
  exact⟨S,_,_,7,.held (.inl hp),rfl,TrOut.refl h hb⟩
def updH (M':List MN)(i:Nat)(Hs:List Int):List Int:=Hs.mapIdx fun j h=>if j < i∧(lv M' j).isNone then -1 else h
theorem updH_len (M':List MN)(i:Nat)(Hs:List Int):(updH M' i Hs).length=Hs.length:=by unfold updH;rw [List.length_mapIdx]
theorem updH_zero (M':List MN)(Hs:List Int):updH M' 0 Hs=Hs:=by
 unfold updH
 apply List.ext_getElem?
 intro j
 rw [List.getElem?_mapIdx]
 cases Hs[j]? <;> simp
theorem updH_live {M':List MN}{i:Nat}{m:MN}(h:lv M' i=some m)(Hs:List Int):updH M' (i+1) Hs=updH M' i Hs:=by
 unfold updH
 apply List.ext_getElem?
 intro j
 rw [List.getElem?_mapIdx,List.getElem?_mapIdx]
 cases Hs[j]? with
 | none=>rfl
 | some v =>
  show some _=some _
  congr 1
  by_cases e:j=i
  ·subst e;simp [h]
  ·have:(j < i+1∧(lv M' j).isNone=true)↔(j < i∧(lv M' j).isNone=true):=by constructor <;> (rintro⟨a,b⟩;exact⟨by omega,b⟩)
   simp only [this]
theorem updH_dead {M':List MN}{i:Nat}(h:lv M' i=none)(Hs:List Int)(hi:i < Hs.length):updH M' (i+1) Hs=(updH M' i Hs).set i (-1):=by
 unfold updH
 apply List.ext_getElem?
 intro j
 rw [List.getElem?_mapIdx,List.getElem?_set,List.length_mapIdx,List.getElem?_mapIdx]
 by_cases e:i=j
 ·subst e
  rw [if_pos rfl,if_pos hi,List.getElem?_eq_getElem hi]
  simp [h]
 ·rw [if_neg e]
  cases Hs[j]? with
  | none=>rfl
  | some v =>
   show some _=some _
   congr 1
   have:(j < i+1∧(lv M' j).isNone=true)↔(j < i∧(lv M' j).isNone=true):=by constructor <;> (rintro⟨a,b⟩;exact⟨by omega,b⟩)
   simp only [this]
theorem updH_all {S':Tr}{M':List MN}(hl:M'.length=M.length)(hd:∀i m,lv M' i=some m→(lv M i).isSome=true)(hb:S'.b=S.b∧S'.s=S.s):updH M' M.length (hsOf S σ M)=hsOf S' σ M':=by
 unfold updH
 apply List.ext_getElem?
 intro j
 rw [List.getElem?_mapIdx]
 by_cases hj:j < M.length
 ·rw [hsOf_at hj,hsOf_at (by omega)]
  show some _=some _
  congr 1
  cases e:lv M' j with
  | none=>simp [hj]
  | some m =>
   have:=hd j m e
   rw [this]
   simp
   unfold Tr.hd;rw [hb.1,hb.2]
 ·rw [List.getElem?_eq_none (by rw [hsOf_len];omega),List.getElem?_eq_none (by rw [hsOf_len];omega)];rfl
theorem hC_set (Hs:List Int)(i:Nat)(v:Int):hC (Hs.set i v)=(hC Hs).set i (.int .i64 v):=by unfold hC;rw [List.map_set]
theorem tw_strike {B:Nat}{w0:World}{l:List Ob}{g Q gh n vc:Nat}{nv:Value}{X:List MX}{Hs:List Int}(h:All B w0 (twL g R Q (.slice (some ⟨gh,0,none⟩) n vc) Hs S sv fv nv X ++ l) w)(hn:Hs.length=n)(i:Nat)(v:Int):All B w0 (twL g R Q (.slice (some ⟨gh,0,none⟩) n vc) (Hs.set i v) S sv fv nv X ++ l) (w.setCell ⟨gh,i,none⟩ (.int .i64 v)):=by
 subst hn
 have ho:=tw_hs h
 refine h.step [bk g [.pointer (some ⟨R,0,none⟩),.pointer (some ⟨Q,0,none⟩),.slice (some ⟨gh,0,none⟩) Hs.length vc] 33] (o:=sl 3 1 (.slice (some ⟨gh,0,none⟩) Hs.length vc) Hs.length (hC Hs)) (o':=sl 3 1 (.slice (some ⟨gh,0,none⟩) Hs.length vc) (Hs.set i v).length (hC (Hs.set i v))) (l2:=trO R S sv fv :: mdO Q nv X :: l) ?_ ((Chg.refl (sl 3 1 (.slice (some ⟨gh,0,none⟩) Hs.length vc) Hs.length (hC Hs)).F w).setCell ⟨gh,i,none⟩ (fun _=>(rfl:(Value.slice (some ⟨gh,0,none⟩) Hs.length vc).ownBlock=some gh)) _) (fun k hk=>.inl hk)
 have:=own_set ho i (.int .i64 v)
 rw [← hC_set] at this
 show Own _ _ _ _ (Hs.set i v).length _
 rw [List.length_set]
 exact this
def DRes (B:Nat)(w0:World)(l:List Ob)(g R Q:Nat)(hv:Value)(Hs:List Int)(nv:Value)(X:List MX)(b:Nat)(o:OpV)(S:Tr)(K:Nat→List Nat)(d:Nat→Nat)(i:Nat)(n:Nd)(v:Value)(w':World):Prop :=
 ∃S' sv' fv' er,v=.int .i64 er∧DroT S K d i n S' er∧All B w0 (twL g R Q hv Hs S' sv' fv' nv X ++ l) w'∧Blk w' b (opC o) 39
theorem dres_below {B:Nat}{w0:World}{l:List Ob}{g Q b i:Nat}{hv nv:Value}{Hs:List Int}{X:List MX}{o:OpV}{n:Nd}(v:Value)(w1 w2:World)(h:DRes B w0 l g R Q hv Hs nv X b o S K d i n v w1)(hb:Below w1.heap.size w1 w2):DRes B w0 l g R Q hv Hs nv X b o S K d i n v w2:=by
 obtain⟨S',sv',fv',er,e,hr,hA,hk⟩:=h
 exact⟨S',sv',fv',er,e,hr,hA.still hb,hk.below hb⟩
theorem dres_S {B:Nat}{w0:World}{l:List Ob}{g Q b i gh n vc j:Nat}{hd:Int}{nv:Value}{Hs:List Int}{X:List MX}{o:OpV}{nd:Nd}(hn:Hs.length=n)(hi:Hs[j]? = some hd)(v:Value)(w':World)(h:DRes B w0 l g R Q (.slice (some ⟨gh,0,none⟩) n vc) Hs nv X b o S K d i nd v w'):DoS g R Q gh j b (.slice (some ⟨gh,0,none⟩) n vc) hd o w':=by
 obtain⟨S',sv',fv',er,e,hr,hA,hk⟩:=h
 obtain⟨gh',e2,_,hc⟩:=tw_hcell hA hn j hd hi
 cases e2
 exact⟨tw_bk hA,hc,hk⟩
def StrK (B:Nat)(w0:World)(l:List Ob)(g R Q gh n vc:Nat)(Hs:List Int)(S:Tr)(sv fv nv:Value)(X:List MX)(iv:Value)(wr:World):Prop :=
 ∃i:Nat,i≤n∧iv=.int .i64 (i:Int)∧All B w0 (twL g R Q (.slice (some ⟨gh,0,none⟩) n vc) (updH (ms X) i Hs) S sv fv nv X ++ l) wr
theorem both_dro (T:TrOk c S K d)(W:Tw ex E c S K M σ)(cl:∀p k,k∈K p→(E p↔E k)){i:Nat}{m:MN}{n:Nd}(hi:lv M i=some m)(hn:S.at (σ i)=some n){S':Tr}{er en:Int}{M':List MN}
  (ht:DroT S K d (σ i) n S' er)(hm:MDro M (fun i=>d (σ i)) i m M' en) :
  er=en∧∃K' dl,TrOk (c+1) S' K' d∧Tw ex E (c+1) S' K' M' σ∧(∀y,E y→S'.at y=S.at y∧K' y=K y)∧(∀p k,k∈K' p→(E p↔E k))∧S'.b=S.b∧S'.s=S.s∧S'.fl=(S.free ++ dl.map σ,S.slots.length)∧M'.length=M.length∧(∀j mj,lv M' j=some mj→(lv M j).isSome=true) ∧
   ((i=0∨m.par≠none)∧dl=[]∨(i≠0∧m.par=none)∧dl=wlk (kM M) (128 - d (σ i)) i):=by
 have hpar:=W.parent T.lk hi hn
 have h7:en=7→(i=0∨m.par≠none):=fun e=>by
  cases hm with
  | no h=>exact h
  | yes _ _=>cases e
 rcases tw_drop W T hi hn hm with ⟨rfl,rfl,h⟩ | ⟨rfl,h1,h2,T',W'⟩
 ·cases ht with
  | held _ =>
   refine⟨rfl,K,[],T.mono (Nat.le_succ c),W.mono (Nat.le_succ c),fun _ _=>⟨rfl,rfl⟩,cl,rfl,rfl,by simp [Tr.fl],rfl,fun j mj h=>by rw [h];rfl,.inl ⟨h7 rfl,rfl⟩⟩
  | ok a b=>rcases h with h | h;exact absurd a h;exact absurd h b
 ·cases ht with
  | held h=>rcases h with h | h;exact absurd h1 h;exact absurd h h2
  | ok _ _ =>
   have hw:=W.wlk (128 - d (σ i)) i m hi
   have hE:=W.off i m hi
   have hnE:∀y∈wlk K (128 - d (σ i)) (σ i),¬E y:=by
    have key:∀(f z:Nat),¬E z→∀y∈wlk K f z,¬E y:=by
     intro f
     induction f with
     | zero=>intro z hz y hy;simp [wlk] at hy;subst hy;exact hz
     | succ f ih =>
      intro z hz y hy
      rw [wlk,List.mem_cons] at hy
      rcases hy with rfl | hy
      ·exact hz
      ·obtain⟨k,hk,hy⟩:=List.mem_flatMap.1 hy
       exact ih k (fun h=>hz ((cl z k hk).2 h)) y hy
    exact key _ _ hE
   have h0:σ i≠0:=fun e=>by
    obtain⟨n0,a,b⟩:=T.doc
    rw [e,a] at hn;cases hn;exact h2 b
   have F:=falls_wlk T hn (top_par T.lk hn h1) h0
   obtain⟨e1,e2,_,e4,e5⟩:=goneL_b S (wlk K (128 - d (σ i)) (σ i))
   refine⟨rfl,_,wlk (kM M) (128 - d (σ i)) i,T'.mono (Nat.le_succ c),W'.mono (Nat.le_succ c),fun y hy=>⟨?_,?_⟩,fun p k hk=>cl p k (kGone_mem hk).2,e1,e2,?_,?_,?_,?_⟩
   ·rw [goneL_at F,if_neg (fun h=>hnE y h hy)]
   ·unfold kGone;rw [if_neg (fun h=>hnE y h hy)]
   ·unfold Tr.fl;rw [e4,e5,hw]
   ·cases hm with
    | yes _ _=>unfold goneM;rw [List.length_mapIdx]
   ·intro j mj hj
    cases hm with
    | yes _ _ =>
     rw [lv_goneM] at hj
     split at hj
     ·cases hj
     ·rw [hj];rfl
   ·cases hm with
    | yes a b=>exact .inr ⟨⟨a,b⟩,rfl⟩
theorem do_dead {B:Nat}{w0:World}{l:List Ob}{g Q gh hvc:Nat}{nv:Value}{X:List MX}{Hs:List Int}{o:OpV}(T:TwS ex E c x S K d (ms X) σ)(hA:All B w0 (twL g R Q (.slice (some ⟨gh,0,none⟩) X.length hvc) (updH (ms X) X.length Hs) S sv fv nv X ++ l) w)(hH:Hs=hsOf S σ (ms X))(hk:o.k % 10=9)(hoff:lv (ms X) (o.iA (ms X).length)=none) :
  DoR ex E c x B w0 l g R Q S K d (ms X) σ o (.returned (.tuple #[.slice none 0 0,.bool true])) w:=by
 have hu:updH (ms X) X.length Hs=hsOf S σ (ms X):=by
  rw [hH,← ms_len X]
  exact updH_all rfl (fun i m h=>by rw [h];rfl) ⟨rfl,rfl⟩
 rw [hu] at hA
 exact⟨.slice none 0 0,true,S,K,d,X,σ,_,sv,fv,nv,[],[],[],rfl,hA.nil _ _,⟨T.ok.mono (Nat.le_succ c),T.tw.mono (Nat.le_succ c),T.cl,T.lim⟩,fun _=>⟨rfl,rfl⟩,rfl,rfl,fun _ _=>⟨rfl,rfl⟩,.off (by omega) (.inl hoff),⟨fun i m hi=>(by rw [sExt_old (lv_live ⟨m,hi⟩)]),(by rw [Nat.sub_self];simp [nxN])⟩,.inr ⟨hk,.inl ⟨fun ma h=>(by rw [hoff] at h;cases h),rfl⟩⟩⟩
theorem do_gone {B:Nat}{w0:World}{l:List Ob}{g Q gh hvc:Nat}{nv' sv' fv':Value}{X X':List MX}{Hs:List Int}{o:OpV}{S':Tr}{m:MN}{en:Int}(T:TwS ex E c x S K d (ms X) σ)(hA:All B w0 (twL g R Q (.slice (some ⟨gh,0,none⟩) X.length hvc) (updH (ms X') X.length Hs) S' sv' fv' nv' X' ++ l) w)(hH:Hs=hsOf S σ (ms X))(hk:o.k % 10=9)(hm:lv (ms X) (o.iA X.length)=some m)(hl:X'.length=X.length)
  (hb:∃K' dl,TrOk (c+1) S' K' d∧Tw ex E (c+1) S' K' (ms X') σ∧(∀y,E y→S'.at y=S.at y∧K' y=K y)∧(∀p k,k∈K' p→(E p↔E k))∧S'.b=S.b∧S'.s=S.s∧S'.fl=(S.free ++ dl.map σ,S.slots.length)∧(ms X').length=(ms X).length∧(∀j mj,lv (ms X') j=some mj→(lv (ms X) j).isSome=true) ∧
   ((o.iA X.length=0∨m.par≠none)∧dl=[]∨(o.iA X.length≠0∧m.par=none)∧dl=wlk (kM (ms X)) (128 - d (σ (o.iA X.length))) (o.iA X.length)))(hmd:MDro (ms X) (fun i=>d (σ i)) (o.iA X.length) m (ms X') en) :
  DoR ex E c x B w0 l g R Q S K d (ms X) σ o (.returned (.tuple #[.slice none 0 0,.bool true])) w:=by
 obtain⟨K',dl,h1,h2,h3,h4,h5,h6,h7,h8,h9,h10⟩:=hb
 have hu:updH (ms X') X.length Hs=hsOf S' σ (ms X'):=by
  rw [hH,← ms_len X]
  exact updH_all h8 h9 ⟨h5,h6⟩
 rw [hu] at hA
 have e2:S'.slots.length=S.slots.length:=congrArg Prod.snd h7
 refine⟨.slice none 0 0,true,S',K',d,X',σ,_,sv',fv',nv',[],[],dl,rfl,hA.nil _ _,⟨h1,h2,h4,by have:=T.lim;omega⟩,fun _=>⟨rfl,rfl⟩,h5,h6,h3,.dro m _ en hk (by rw [ms_len];exact hm) (by rw [ms_len];exact hmd),⟨fun i mi hi=>?_,?_⟩,.inr ⟨hk,?_⟩⟩
 ·have:=lv_live ⟨mi,hi⟩
  rw [sExt_old (by omega)]
 ·rw [h8,Nat.sub_self,h7];rfl
 ·rw [ms_len]
  rcases h10 with ⟨a,b⟩ | ⟨a,b⟩
  ·exact .inl ⟨fun ma h=>by rw [hm] at h;cases h;exact a,b⟩
  ·exact .inr ⟨⟨m,hm,a.1,a.2⟩,b⟩
theorem str_all {Z:List Nat→Prop}{X X':List MX}{Hs:List Int}{S':Tr}(hH:Hs=hsOf S σ (ms X))(hb:∃K' dl,TrOk (c+1) S' K' d∧Tw ex E (c+1) S' K' (ms X') σ∧(∀y,E y→S'.at y=S.at y∧K' y=K y)∧(∀p k,k∈K' p→(E p↔E k))∧S'.b=S.b∧S'.s=S.s∧S'.fl=(S.free ++ dl.map σ,S.slots.length)∧(ms X').length=(ms X).length∧(∀j mj,lv (ms X') j=some mj→(lv (ms X) j).isSome=true)∧Z dl):updH (ms X') X.length Hs=hsOf S' σ (ms X'):=by
 obtain⟨K',dl,h1,h2,h3,h4,h5,h6,h7,h8,h9,h10⟩:=hb
 rw [hH,← ms_len X]
 exact updH_all h8 h9 ⟨h5,h6⟩
end
end Go.Proofs.YtfelmdkeaacfeaaGreatDoor.W
end
