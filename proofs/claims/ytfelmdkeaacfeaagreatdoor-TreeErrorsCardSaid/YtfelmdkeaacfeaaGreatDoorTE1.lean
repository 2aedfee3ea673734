/- Texts joined: LkB Mr WkS RegZ TwO Nod ReF EqA Equ LwM. -/
import Derived.Test.YtfelmdkeaacfeaaGreatDoorTB41
import Derived.Test.YtfelmdkeaacfeaaGreatDoorTB43
import Derived.LoopTactic
set_option maxRecDepth 100000
set_option maxHeartbeats 40000000
set_option linter.unusedVariables false
set_option linter.unusedSimpArgs false
section
namespace Go.Proofs.YtfelmdkeaacfeaaGreatDoor.W
open Go.RowKit
theorem Yx {B R g cap:Nat}{S:Tr}{fv:Value}{w:World}{K:Nat→List Nat}{d:Nat→Nat}(h:fZ B R S (.slice (some ⟨g,0,none⟩) S.slots.length cap) fv w)(hL:Lk S K d)(i:Nat)(n:Nd)(hi:S.at i=some n)(h0:n.parent=0) :
  Calls Tryz.prog 28 #[.pointer (some ⟨R,0,none⟩),.int .i64 (S.hd i)] w fun e w'=>e=.returned (.int .i64 (-1))∧Below w.heap.size w w':=by
 have HA:=ae (bV h (S.hd i) (hd_ok hL hi).1 (fV hL hi))
 have c4:=bK h hi 4 (by omega)
 simp only [jd,fQ,fP] at c4
 rw [h0] at c4
 clear h hL hi
 go_enter Tryz.func28,Tryz.ntmps28
 go_wp2_with fail
 refine HA.out.mono ?_
 rintro e w2 ⟨rfl,hb2⟩
 have d4:=aU hb2 c4
 go_wp2_with fail
 go_ret
 exact⟨rfl,hb2⟩
end Go.Proofs.YtfelmdkeaacfeaaGreatDoor.W
end
section
namespace Go.Proofs.YtfelmdkeaacfeaaGreatDoor.W
open Go.RowKit
section
variable {Q g cap : Nat} {X : List MX} {w : World} {D : Nat → Nat}
theorem Yv (h:Af Q (.slice (some ⟨g,0,none⟩) X.length cap) X w)(hf:X.length≤100000){i:Nat}{m:MN}(hi:lv (ms X) i=some m)(hp:m.par=none) :
  Calls Tryz.prog 51 #[.pointer (some ⟨Q,0,none⟩),.int .i64 (i:Int)] w fun e w'=>e=.returned (.int .i64 (-1))∧w'=w:=by
 have c0:=h.ptr
 obtain⟨_,c4,_⟩:=h.FZ hi
 rw [hp] at c4
 have c4':w.cell? ⟨g,i*7+4,none⟩=some (.int .i64 (-1)):=c4
 have l1:=lU hi
 clear c4 h hi hp
 go_enter Tryz.func51,Tryz.ntmps51
 go_wp2_with fail
 go_ret
 exact⟨rfl,rfl⟩
end
end Go.Proofs.YtfelmdkeaacfeaaGreatDoor.W
end
section
namespace Go.Proofs.YtfelmdkeaacfeaaGreatDoor.W
open Go.RowKit
attribute [local go_sem] Oper.semAt_some
theorem Yq {B R b Bs Bh n:Nat}{S:Tr}{sv fv:Value}{w0 w:World}(h0:fZ B R S sv fv w0)(h:Int)(hh:uY h)(hk:S.ix h=none)
  (hI:UM b w0 w)(hBs:dD w Bs [.pointer (some ⟨R,0,none⟩)] 29)(hBh:dD w Bh [.int .i64 h] 3) :
  SeqStopsK Fence.wide n Tryz.prog 73 #[.pointer (some ⟨Bs,0,none⟩),.pointer (some ⟨Bh,0,none⟩)] (fun x:Nat=>#[Value.int .i64 (S.hd x)]) (EZ b) (fun ys=>ys=[]) (fun _=>True) 0 w:=by
 intro l J Jx W hW hJ hJx hY hj
 have hbl:=hI.bx.2
 have hIW:=hI.kp (EZ.below hbl hW)
 have HAt:=ae (qI (h0.VU hIW) h hh hk)
 have c0:=(hBs.below hW).cell 0
 have c1:=(hBh.below hW).cell 0
 simp only [List.getElem?_cons_zero] at c0 c1
 have HJ:=ae (fun W1 (hb:Below W.heap.size W W1)=>hJ _ _ _ none hj (kU hb) (fun r e=>by cases e))
 clear hY hj hJ hJx hI hIW hBs hBh
 refine XL Tryz.func73 rfl trivial ?_ rfl
 simp only [Tryz.ntmps73,gZ,List.length_cons,List.length_nil,Nat.reduceAdd,Nat.reduceSub,ji,Array.replicate_zero,jS,jE,List.nil_append,List.cons_append]
 gi_wp2
 refine⟨trivial,fun h=>(by cases h),(jP.2 HAt.out).mono ?_⟩
 rintro e W1 ⟨rfl,hb1⟩
 have HJ1:=ae (HJ.out W1 hb1)
 clear hb1 HJ
 gi_wp2
 go_end0
 exact⟨⟨_,rfl⟩,.inl ⟨_,rfl,HJ1.out⟩⟩
end Go.Proofs.YtfelmdkeaacfeaaGreatDoor.W
end
section
namespace Go.Proofs.YtfelmdkeaacfeaaGreatDoor.W.RZ
open Go
open Go.Proofs.YtfelmdkeaacfeaaGreatDoor.W
section
variable {P : Program} {ops : Array Oper} {md : Region.Mode} {m : Nat}
end
section
variable (P : Program) (ops : Array Oper) (L : Pl)
end
section
variable {P : Program} {ops : Array Oper} {L : Pl} {md : Region.Mode} {m : Nat} {Q : Array Bool → List Value → List Ob → Act → Prop}
end
section
variable {P : Program} {ops : Array Oper} {L : Pl} {Q : List Value → List Ob → Act → Prop} {i : Nat} {k : List Value} {X : List Ob} {o : Oper} {rest : List Oper} {a : Act}
theorem Hf (hw:Region.wanted o (yielded ops a.tmps)=true)(hk:kindOf o=1)(hV:L.V k undef)
  (hC:∀Y w,(∀b∈X,b∈Y)→L.C k Y w→∃w',(execOp a.eval o).run P w=.ok .skip w'∧L.C (undef :: k) Y w')(h:∀v,L.V k v→qi P ops L Q (i+1) (v :: k) X rest (a.put o.dst v)):qi P ops L Q i k X (o :: rest) a:=by
 refine⟨fun _=>⟨fun e=>absurd (hk.symm.trans e) (by decide),fun _=>⟨⟨_,hV⟩,fun Y w hY hw'=>.inr (.inr (by obtain⟨w1,h1,h2⟩:=hC Y w hY hw';exact⟨w1,h1,hV,h2⟩))⟩,fun e=>absurd (hk.symm.trans e) (by decide)⟩,fun k' D v' hO=>?_⟩
 rcases hO with ⟨h',_⟩ | ⟨_,⟨e,_⟩ | ⟨_,hv,rfl,rfl⟩ | ⟨e,_⟩⟩
 ·rw [hw] at h';cases h'
 ·rw [hk] at e;cases e
 ·exact h _ hv
 ·rw [hk] at e;cases e
end
end Go.Proofs.YtfelmdkeaacfeaaGreatDoor.W.RZ
end
section
namespace Go.Proofs.YtfelmdkeaacfeaaGreatDoor.W
open Go.RowKit
section
variable {B : Nat} {w0 w w' : World} {l : List Ob} {g R Q : Nat} {hv sv fv nv : Value} {Hs : List Int} {S : Tr} {X : List MX}
end
theorem YF {S:Tr}{h:Int}{i:Nat}(k:S.ix h=some i)(hl:S.slots.length≤2000000000):S.hd i=h:=by
 obtain⟨h1,h2,_⟩:=zG k
 unfold Tr.hd hdl
 rw [ax (by omega)]
 unfold idx at h1
 split at h1
 ·omega
 ·rename_i hc
  have hm:(h - bnd S.b) % bnd S.s=0:=by
   by_cases e:(h - bnd S.b) % bnd S.s=0
   ·exact e
   ·exact absurd (.inr (.inl e)) hc
  have:=Int.mul_ediv_add_emod (h - bnd S.b) (bnd S.s)
  rw [hm,h1] at this
  omega
end Go.Proofs.YtfelmdkeaacfeaaGreatDoor.W
end
section
namespace Go.Proofs.YtfelmdkeaacfeaaGreatDoor.W
open Go.RowKit
theorem get_none {B R:Nat}{S:Tr}{sv fv:Value}{w:World}(h:fZ B R S sv fv w)(hd:Int)(hh:uY hd)(hk:S.ix hd=none) :
  Calls Tryz.prog 71 #[.pointer (some ⟨R,0,none⟩),.int .i64 hd] w fun e w'=>e=.returned (.tuple #[.agg (jd jV).toArray,.bool false])∧Below w.heap.size w w':=by
 have HF:=ae (fun wx (hb:Below w.heap.size w wx)=>Gg (h.below hb) hd hh hk)
 clear h hk
 have hb1:=(ak w.heap.size w).alloc (au _) (.cells (jd jV).toArray 62)
 have k1:=dD.new w (jd jV) 62
 go_enter Tryz.func71,Tryz.ntmps71
 go_wp2_with fail
 refine(HF.out _ hb1).mono ?_
 rintro e w2 ⟨rfl,hb2⟩
 have k2:=dD.below k1 hb2
 have HB2:=ae (aV hb1 hb2)
 simp only [jd,jV,dA] at k2 ⊢
 have c0:=k2.cell 0
 have c1:=k2.cell 1
 have c2:=k2.cell 2
 have c3:=k2.cell 3
 have c4:=k2.cell 4
 have c5:=k2.cell 5
 have c6:=k2.cell 6
 have c7:=k2.cell 7
 have c8:=k2.cell 8
 have cf:=k2.free
 simp only [fQ,fP] at c0 c1 c2 c3 c4 c5 c6 c7 c8
 have hlt:=k2.lt
 clear k1 hb1 hb2 HF
 go_wp2_with fail
 have k9:=(dD.over jV k2 rfl).alloc (.cells (jd jV).toArray 62)
 have b9:=(Below.over jV HB2.out (au w.heap.size)).alloc (by simp [World.setCell];omega) (.cells (jd jV).toArray 62)
 exact nZ (KD (by rfl) (by rfl) k9) rfl ⟨rfl,b9⟩
theorem N8 {B R:Nat}{S:Tr}{sv fv:Value}{w:World}(h:fZ B R S sv fv w)(hd:Int)(hh:uY hd)(hk:S.ix hd=none) :
  Calls Tryz.prog 24 #[.pointer (some ⟨R,0,none⟩),.int .i64 hd] w fun e w'=>∃v',e=.returned (.tuple #[.agg (jd { jV with av:=v' }).toArray,.bool false])∧w'.ownsRow w.heap.size 91 2 v' 0 []∧Below w.heap.size w w' :=
 PR (B:=B) (R:=R) jV false hd (fun wx hb=>get_none (h.below hb) hd hh hk) ⟨none,0,rfl,.inl rfl⟩ (by decide) h.blk.free h.blk.lt
end Go.Proofs.YtfelmdkeaacfeaaGreatDoor.W
end
section
namespace Go.Proofs.YtfelmdkeaacfeaaGreatDoor.W
open Go.RowKit
def yH (w:World)(X:List Ob)(w':World):Prop:=∀o∈X,o.P w'∧∀k,o.F k→w.heap.size≤k
theorem yH.below {w w1 w2:World}{X:List Ob}(h:yH w X w1)(hb:Below w1.heap.size w1 w2):yH w X w2:=fun o ho =>
 ⟨o.loc w1 w2 (h o ho).1 (fun k hk=>hb.block k (o.here w1 (h o ho).1 k hk)),(h o ho).2⟩
end Go.Proofs.YtfelmdkeaacfeaaGreatDoor.W
end
section
namespace Go.Proofs.YtfelmdkeaacfeaaGreatDoor.W
open Go.RowKit
theorem YE {Q g cap:Nat}{X:List MX}{w:World}(h:jC Q (.slice (some ⟨g,0,none⟩) X.length cap) X w){i:Nat}{x:MX}(hx:X[i]? = some x) :
  w.cell? ⟨g,i*7,none⟩=some (.int .i64 x.m.kind)∧w.cell? ⟨g,i*7+1,none⟩=some (dA x.m.name)∧w.cell? ⟨g,i*7+2,none⟩=some x.av∧w.cell? ⟨g,i*7+3,none⟩=some (dA x.m.data)∧w.cell? ⟨g,i*7+4,none⟩=some (.int .i64 (pI x.m.par))∧w.cell? ⟨g,i*7+5,none⟩=some x.kv∧w.cell? ⟨g,i*7+6,none⟩=some (.bool x.m.gone):=by
 have hc:=fun j hj=>h.W.cell hx j hj
 exact⟨hc 0 (by omega),hc 1 (by omega),hc 2 (by omega),hc 3 (by omega),hc 4 (by omega),hc 5 (by omega),hc 6 (by omega)⟩
theorem Yu {w:World}{v:Value}{l:List jR}{e:TypeId}(h:Own w e 2 v l.length (cu l)){j:Nat}{a:jR}(hj:l[j]? = some a):∃g c,v=.slice (some ⟨g,0,none⟩) l.length c∧w.cell? ⟨g,j*2,none⟩=some (dA a.1)∧w.cell? ⟨g,j*2+1,none⟩=some (dA a.2):=by
 have hk:=(ai.1 hj).1
 obtain⟨g,c,rfl,_⟩:=sK h (by omega)
 obtain⟨h1,h2⟩:=kz l j a hj
 exact⟨g,c,rfl,by rw [h.cellAt (j*2) (by omega),uT j 2];exact h1,by rw [h.cellAt (j*2+1) (by omega),uT j 2];exact h2⟩
def WH (w:World)(n:Nat)(iv:Value)(wr:World):Prop:=∃i:Nat,i≤n∧iv=.int .i64 (i:Int)∧Below w.heap.size w wr
theorem AB {n:Nd}{b:Bool}{v v':Value}(h:Value.tuple #[.agg (jd { n with av:=v }).toArray,.bool b]=.tuple #[.agg (jd { n with av:=v' }).toArray,.bool b]):v=v':=by
 simpa [jd] using h
def Vs (n:Nd)(b:Bool):List Value→World→Prop
 | [v],w'=>∀v',v=.tuple #[.agg (jd { n with av:=v' }).toArray,.bool b]→Own w' 91 2 v' n.attrs.length (cu n.attrs)
 | _,_=>True
theorem Vs.below {n:Nd}{b:Bool}(k:List Value)(w1 w2:World)(h:Vs n b k w1)(hb:Below w1.heap.size w1 w2):Vs n b k w2:=by
 match k,h with
 | [],_=>trivial
 | [v],h=>exact fun v' e=>bH (h v' e) hb
 | _ :: _ :: _,_=>trivial
def Vt (l:List Value)(n:Nat):List Value→World→Prop
 | [v],w'=>Own w' 3 1 v n l
 | _,_=>True
theorem Vt.below {l:List Value}{n:Nat}(k:List Value)(w1 w2:World)(h:Vt l n k w1)(hb:Below w1.heap.size w1 w2):Vt l n k w2:=by
 match k,h with
 | [],_=>trivial
 | [v],h=>exact bH h hb
 | _ :: _ :: _,_=>trivial
theorem qH {F:Nat→Prop}{w w':World}{r j:Nat}(v:Value)(h:dU F w w')(hr:F r):dU F w (w'.setCell ⟨r,j,none⟩ v):=h.setCell ⟨r,j,none⟩ (fun _=>hr) v
theorem Uh {w:World}{r:Nat}{cs:List Value}{t:TypeId}{G:World→Prop}(k:dD w r cs t)(hl:cs.length=9)(v0 v1 v2 v3 v4 v5 v6 v7 v8:Value)(hG:∀w',dD w' r [v0,v1,v2,v3,v4,v5,v6,v7,v8] t→dU (fun k=>k=r) w w'→G w') :
  G (((((((((w.setCell ⟨r,0,none⟩ v0).setCell ⟨r,1,none⟩ v1).setCell ⟨r,2,none⟩ v2).setCell ⟨r,3,none⟩ v3).setCell ⟨r,4,none⟩ v4).setCell ⟨r,5,none⟩ v5).setCell ⟨r,6,none⟩ v6).setCell ⟨r,7,none⟩ v7).setCell ⟨r,8,none⟩ v8):=by
 have h9:=((((((((k.set 0 v0).set 1 v1).set 2 v2).set 3 v3).set 4 v4).set 5 v5).set 6 v6).set 7 v7).set 8 v8
 refine hG _ ?_ (qH _ (qH _ (qH _ (qH _ (qH _ (qH _ (qH _ (qH _ (qH _ (dU.refl _ _) rfl) rfl) rfl) rfl) rfl) rfl) rfl) rfl) rfl)
 match cs,hl with
 | [_,_,_,_,_,_,_,_,_],_=>simpa using h9
def UT (w:World)(r:Nat)(v0 v1 v2 v3 v4 v5 v6 v7 v8:Value):World :=
 ((((((((w.setCell ⟨r,0,none⟩ v0).setCell ⟨r,1,none⟩ v1).setCell ⟨r,2,none⟩ v2).setCell ⟨r,3,none⟩ v3).setCell ⟨r,4,none⟩ v4).setCell ⟨r,5,none⟩ v5).setCell ⟨r,6,none⟩ v6).setCell ⟨r,7,none⟩ v7).setCell ⟨r,8,none⟩ v8
theorem Ui {w:World}{r:Nat}{cs:List Value}{t:TypeId}(k:dD w r cs t)(hl:cs.length=9)(v0 v1 v2 v3 v4 v5 v6 v7 v8:Value):dD (UT w r v0 v1 v2 v3 v4 v5 v6 v7 v8) r [v0,v1,v2,v3,v4,v5,v6,v7,v8] t∧dU (fun k=>k=r) w (UT w r v0 v1 v2 v3 v4 v5 v6 v7 v8) :=
 Uh (G:=fun w'=>dD w' r [v0,v1,v2,v3,v4,v5,v6,v7,v8] t∧dU (fun k=>k=r) w w') k hl v0 v1 v2 v3 v4 v5 v6 v7 v8 (fun _ h1 h2=>⟨h1,h2⟩)
structure L9 (g R Q gh i:Nat) (hv:Value) (hd:Int) (w:World):Prop where
 bk:dD w g [.pointer (some ⟨R,0,none⟩),.pointer (some ⟨Q,0,none⟩),hv] 33
 hc:w.cell? ⟨gh,i,none⟩=some (.int .i64 hd)
def Ez (W:World)(n:Nd)(b:Bool):List Value→List Ob→World→Prop
 | [],Y,w'=>Below W.heap.size W w'∧yH W Y w'
 | [v],Y,w'=>Below W.heap.size W w'∧yH W Y w'∧Vs n b [v] w'
 | [_,v],Y,w'=>Below W.heap.size W w'∧∃r va,v=.tuple #[.agg (jd { n with av:=va }).toArray,.bool b]∧W.heap.size≤r∧bk r (jd jV) 62∈Y∧dD w' r (jd { n with av:=va }) 62∧Own w' 91 2 va n.attrs.length (cu n.attrs)
 | _,_,_=>False
def VR (n:Nd)(b:Bool):List Value→Value→Prop
 | [],v=>∃va vc,v=.tuple #[.agg (jd { n with av:=.slice va n.attrs.length vc }).toArray,.bool b]
 | _,v=>v=undef
theorem Ez.low {W w':World}{n:Nd}{b:Bool}{k:List Value}{Y:List Ob}(h:Ez W n b k Y w'):Below W.heap.size W w':=by
 match k,h with
 | [],h=>exact h.1
 | [v],h=>exact h.1
 | [_,v],h=>exact h.1
theorem Ez.alloc {W:World}{n:Nd}{b:Bool}(k:List Value)(Y:List Ob)(w':World)(cs:List Value)(ty:TypeId)(h:Ez W n b k Y w'):Ez W n b k (bk w'.heap.size cs ty :: Y) (w'.alloc (.cells cs.toArray ty)):=by
 have hb:Below w'.heap.size w' (w'.alloc (.cells cs.toArray ty)):=(ak _ _).alloc (au _) _
 have hm:∀{Z},Below W.heap.size W w'→yH W Z w'→yH W (bk w'.heap.size cs ty :: Z) (w'.alloc (.cells cs.toArray ty)):=fun hbl h o ho=>by
  rcases bn.1 ho with rfl | ho
  ·exact⟨dD.new w' cs ty,fun k hk=>by have:k=w'.heap.size:=hk;have:=hbl.size;omega⟩
  ·exact h.below hb o ho
 match k,h with
 | [],h=>exact⟨aV h.1 hb,hm h.1 h.2⟩
 | [v],h=>exact⟨aV h.1 hb,hm h.1 h.2.1,Vs.below _ _ _ h.2.2 hb⟩
 | [_,v],⟨h1,r,va,e,hr,hm,hk,ho⟩=>exact⟨aV h1 hb,r,va,e,hr,gX _ hm,hk.below hb,bH ho hb⟩
theorem Ez.perm {W:World}{n:Nd}{b:Bool}(k:List Value)(Y Z:List Ob)(w':World)(hp:Y.Perm Z)(h:Ez W n b k Y w'):Ez W n b k Z w':=by
 match k,h with
 | [],h=>exact⟨h.1,fun o ho=>h.2 o (hp.mem_iff.2 ho)⟩
 | [v],h=>exact⟨h.1,fun o ho=>h.2.1 o (hp.mem_iff.2 ho),h.2.2⟩
 | [_,v],⟨h1,r,va,e,hr,hm,hk,ho⟩=>exact⟨h1,r,va,e,hr,hp.mem_iff.1 hm,hk,ho⟩
theorem LW {r r':Nat}{cs:List Value}{t:TypeId}(h:bk r cs t=bk r' cs t):r=r':=by
 have h1:=congrFun (bW Ob.F h) r
 have h2:(r=r)=(r=r'):=h1
 exact h2 ▸ rfl
theorem Ez.store {W w:World}{n:Nd}{b:Bool}{r:Nat}{va:Option Addr}{vc:Nat}{Y:List Ob}(h:Ez W n b [.tuple #[.agg (jd { n with av:=.slice va n.attrs.length vc }).toArray,.bool b]] Y w)(hr:bk r (jd jV) 62∈Y) :
  dD w r (jd jV) 62∧Ez W n b [undef,.tuple #[.agg (jd { n with av:=.slice va n.attrs.length vc }).toArray,.bool b]] Y (UT w r (.int .i64 n.kind) (dA n.name) (.slice va n.attrs.length vc) (dA n.data) (.int .i64 n.parent) (.int .i64 n.first) (.int .i64 n.last) (.int .i64 n.prev) (.int .i64 n.next)):=by
 obtain⟨h1,h2,h3⟩:=h
 obtain⟨h4,h5⟩:=h2 _ hr
 have h4:dD w r (jd jV) 62:=h4
 have hrW:W.heap.size≤r:=h5 r rfl
 obtain⟨k1,k2⟩:=Ui h4 rfl (.int .i64 n.kind) (dA n.name) (.slice va n.attrs.length vc) (dA n.data) (.int .i64 n.parent) (.int .i64 n.first) (.int .i64 n.last) (.int .i64 n.prev) (.int .i64 n.next)
 have hO:=h3 _ rfl
 exact⟨h4,h1.trans (k2.below h1.size (fun k e=>by subst e;exact hrW)),r,_,rfl,hrW,hr,k1,MK hO k2 (fun q hq e=>by obtain⟨cur,hc⟩:=gJ hO hq;exact dw hc h4 (by decide) e)⟩
theorem YC {ex:Prop}{E:Nat→Prop}{c x:Nat}{S:Tr}{K:Nat→List Nat}{d:Nat→Nat}{M:List MN}{σ : Nat→Nat}(T:CX ex E c x S K d M σ){i:Nat}{m:MN}{n:Nd}(hm:lv M i=some m)(hn:S.at (σ i)=some n) :
  hnd (iZ S σ M) (pI m.par)=n.parent∧(-100000:Int)≤pI m.par∧pI m.par≤100000:=by
 have hp:=T.tw.parent T.ok.lk hm hn
 have hf:=T.tw.few
 cases e:m.par with
 | none =>
  rw [e] at hp
  refine⟨?_,by show(-100000:Int)≤-1;omega,by show(-1:Int)≤100000;omega⟩
  rw [hp];rfl
 | some p =>
  rw [e] at hp
  obtain⟨mp,h1,h2⟩:=T.tw.par i m p hm e
  have hl:=kH ⟨mp,h1⟩
  refine⟨?_,by show(-100000:Int)≤(p:Int);omega,by show(p:Int)≤100000;omega⟩
  rw [hp]
  show hnd (iZ S σ M) (p:Int)=S.hd (σ p)
  unfold hnd
  rw [ax (by omega),Int.toNat_natCast,dV,A7 h1];rfl
theorem YA {ex:Prop}{E:Nat→Prop}{c x:Nat}{R Q gs cs gm cm:Nat}{fv:Value}{S:Tr}{K:Nat→List Nat}{d:Nat→Nat}{X:List MX}{σ : Nat→Nat}
  (T:CX ex E c x S K d (ms X) σ)(hX:X.length≤10000){i:Nat}{m:MN}{n:Nd}(hm:lv (ms X) i=some m)(hn:S.at (σ i)=some n) :
  ∃q:Int,(∀w,fZ 0 R S (.slice (some ⟨gs,0,none⟩) S.slots.length cs) fv w→Calls Tryz.prog 28 #[.pointer (some ⟨R,0,none⟩),.int .i64 (S.hd (σ i))] w fun e w'=>e=.returned (.int .i64 q)∧Below w.heap.size w w') ∧
   (∀w,jC Q (.slice (some ⟨gm,0,none⟩) X.length cm) X w→Calls Tryz.prog 51 #[.pointer (some ⟨Q,0,none⟩),.int .i64 (i:Int)] w fun e w'=>e=.returned (.int .i64 q)∧w'=w):=by
 have hW:=T.tw.mw T.ok.lk
 cases e:m.par with
 | none =>
  refine⟨-1,fun w h=>?_,fun w h=>Yv h.W (by omega) hm e⟩
  have h0:n.parent=0:=(T.ok.lk.top _ n hn (T.tw.top i m hm e)).1
  exact Yx h T.ok.lk (σ i) n hn h0
 | some p =>
  obtain⟨mp,h1,h2⟩:=T.tw.par i m p hm e
  obtain⟨j,hj⟩:=aI.1 h2
  refine⟨(j:Int),fun w h=>?_,fun w h=>DU h.W hW hm e h1 hj⟩
  exact sQ h T.ok.lk (σ p) j (σ i) (by rw [T.tw.kids p mp h1,bI,hj];rfl)
end Go.Proofs.YtfelmdkeaacfeaaGreatDoor.W
end
section
namespace Go.Proofs.YtfelmdkeaacfeaaGreatDoor.W
open Go.RowKit
theorem Yy {ex:Prop}{E:Nat→Prop}{c x:Nat}{B:Nat}{w0 w:World}{l:List Ob}{g R Q:Nat}{hv sv fv nv:Value}{S:Tr}{K:Nat→List Nat}{d:Nat→Nat}{X:List MX}{σ : Nat→Nat}
  (h:All B w0 (kK g R Q hv (iZ S σ (ms X)) S sv fv nv X ++ l) w)(T:CX ex E c x S K d (ms X) σ)(he:ex)(hX:X.length≤10000) :
  Calls Tryz.prog 14 #[.pointer (some ⟨g,0,none⟩)] w fun e w'=>e=.returned (.bool true)∧Below w.heap.size w w':=by
 obtain⟨Hs,hHs⟩:∃Hs,Hs=iZ S σ (ms X):=⟨_,rfl⟩
 rw [← hHs] at h
 have hHl:Hs.length=X.length:=by rw [hHs,jJ,aY]
 have hXp:0 < X.length:=by
  obtain⟨_,m,hm⟩:=T.tw.zero
  have:=kH ⟨m,hm⟩
  rw [aY] at this;omega
 have hSp:0 < S.slots.length:=by
  obtain⟨n,hn,_⟩:=T.ok.doc
  exact iy hn
 obtain⟨hva,hvc,hvv⟩:=aW (lL h)
 rw [hHl] at hvv
 subst hvv
 obtain⟨gm,capm,rfl⟩:=(lG h).W.shape hXp
 obtain⟨gs,caps,rfl⟩:=fO (jF h) (by omega)
 have HAl:=ae h
 have HT:=ae T
 have HHs:=ae hHs
 have HHl:=ae hHl
 clear h T hHs hHl
 go_enter Tryz.func14,Tryz.ntmps14
 go_wp2_with fail
 go_loopw [3] (fun iv wr=>WH w X.length iv wr) (fun iv _=>X.length - iW iv)
 case atStart=>exact⟨0,aZ _,rfl,ak _ _⟩
 case round =>
  obtain⟨i,hi,rfl,hB⟩:=hrel
  obtain⟨wq,rfl⟩:∃q,q=wr:=⟨wr,rfl⟩
  have HB:=ae hB
  have HA:=ae (HAl.out.still hB)
  have g2:=(bF HA.out).cell 2
  simp only [fQ,fP] at g2
  clear hB
  by_cases hlt:i < X.length
  ·obtain⟨hd,hhd,hho,hcase⟩:=zI HT.out (i:=i) (by rw [aY];exact hlt)
   rw [← HHs.out] at hhd
   obtain⟨gh,rfl,hghl,hgh⟩:=jk HA.out HHl.out _ _ hhd
   have hai:(i:Int) < (X.length:Int):=by omega
   go_upto_region 4 with fail
   haveI hne:Nonempty (dS (L9 g R Q gh i (.slice (some ⟨gh,0,none⟩) X.length hvc) hd)):=⟨⟨wq,bF HA.out,hgh⟩⟩
   have y0:=fun(x:dS (L9 g R Q gh i (.slice (some ⟨gh,0,none⟩) X.length hvc) hd))=>x.h.bk.cell 0
   have y2:=fun(x:dS (L9 g R Q gh i (.slice (some ⟨gh,0,none⟩) X.length hvc) hd))=>x.h.bk.cell 2
   have y3:=fun(x:dS (L9 g R Q gh i (.slice (some ⟨gh,0,none⟩) X.length hvc) hd))=>x.h.hc
   simp only [fQ,fP] at y0 y2
   have hS4:∀n b k Y w',Ez wq n b k Y w'→L9 g R Q gh i (.slice (some ⟨gh,0,none⟩) X.length hvc) hd w':=fun n b k Y w' h=>⟨(bF HA.out).below h.low,aU h.low hgh⟩
   clear g2
   rcases hcase with ⟨m,n,hm,hn,rfl⟩ | ⟨hm,rfl,hix⟩
   case inr =>
    refine RZ.sH ⟨L9 g R Q gh i (.slice (some ⟨gh,0,none⟩) X.length hvc) (-1),Ez wq jV false,VR jV false,fun _ r=>.pointer (some ⟨r,0,none⟩),fun _=>jd jV,fun _=>62⟩ 18 (by kernel_rfl) (by kernel_rfl) (hS4 jV false) Ez.alloc Ez.perm ⟨(ak _ _).drew,fun o ho=>(by cases ho)⟩ ?_
    simp only [mD,mr,l9,lZ]
    repeat (first
     | (refine RZ.aN (by rfl) (by rfl) (fun K hK=>?_);go_big_quiet_step (fail);refine az ?_;refine hK.out _ ?_;clear hK K)
     | (refine RZ.aK (by rfl) ?_;simp only [Act.put,dL,dK,dJ]))
    refine RZ.dM (by rfl) (by rfl) (fun w=>by go_simp;exact⟨rfl,rfl⟩) ⟨_,none,0,rfl⟩ (fun Y wx hx=>?_) (fun v hv=>?_)
    ·have hx1:Below wq.heap.size wq wx:=hx.1
     refine(N8 (jF (HA.out.still hx1)) (-1) hho hix).mono ?_
     rintro e wy ⟨v',rfl,ho,hb⟩
     obtain⟨va,vc,rfl⟩:=bP ho
     exact⟨_,rfl,⟨va,vc,rfl⟩,aV hx1 hb,hx.2.below hb,fun v' e=>by rw [← AB e];exact iD ho (aZ _)⟩
    obtain⟨va,vc,rfl⟩:=hv
    simp only [Act.put,dL,dK,dJ]
    repeat (first
     | (refine RZ.aN (by rfl) (by rfl) (fun K hK=>?_);go_big_quiet_step (fail);refine az ?_;refine hK.out _ ?_;clear hK K)
     | (refine RZ.aK (by rfl) ?_;simp only [Act.put,dL,dK,dJ]))
    refine RZ.rY (fun r=>.pointer (some ⟨r,0,none⟩)) (jd jV) 62 rfl rfl rfl (by rfl) (by rfl) (fun w=>by go_simp;rfl) ?_
    intro r
    simp only [Act.put,dL,dK,dJ]
    repeat (first
     | (refine RZ.aN (by rfl) (by rfl) (fun K hK=>?_);go_big_quiet_step (fail);refine az ?_;refine hK.out _ ?_;clear hK K)
     | (refine RZ.aK (by rfl) ?_;simp only [Act.put,dL,dK,dJ]))
    refine RZ.Hf (by rfl) (by rfl) rfl (fun Y wx hY hx=>?_) (fun v hv=>?_)
    ·obtain⟨k5,h5⟩:=Ez.store hx (hY _ (List.Mem.head _))
     refine⟨_,?_,h5⟩
     have hrz:=k5.free
     have hrl:=k5.lt
     have c0:=k5.cell 0
     have c1:=k5.cell 1
     have c2:=k5.cell 2
     have c3:=k5.cell 3
     have c4:=k5.cell 4
     have c5:=k5.cell 5
     have c6:=k5.cell 6
     have c7:=k5.cell 7
     have c8:=k5.cell 8
     simp only [jd,jV,dA,fQ,fP] at c0 c1 c2 c3 c4 c5 c6 c7 c8
     clear h5 k5 hx hY
     simp only [UT,jd,dA]
     go_simp
    obtain rfl:v=undef:=hv
    simp only [Act.put,dL,dK,dJ]
    repeat (first
     | (refine RZ.aN (by rfl) (by rfl) (fun K hK=>?_);go_big_quiet_step (fail);refine az ?_;refine hK.out _ ?_;clear hK K)
     | (refine RZ.aK (by rfl) ?_;simp only [Act.put,dL,dK,dJ]))
    refine RZ.eH ?_
    rintro w6 ⟨hB6,r',va',ez1,hrW,hmem,k6,hO6⟩
    obtain rfl:=LW (eF.1 hmem)
    have ez2:=AB ez1
    subst ez2
    clear ez1
    have hB6:Below wq.heap.size wq w6:=hB6
    have HA6:=ae (HA.out.still hB6)
    have HB6:=ae (aV HB.out hB6)
    have g1:=(bF HA6.out).cell 1
    simp only [fQ,fP] at g1
    have HHas:=ae (BV HA6.out i (by omega) ⟨hXp,by omega⟩)
    rw [hm] at HHas
    clear y0 y2 y3 hne hS4 k6 hO6 hB6 hgh hghl hmem hrW
    go_wp2_with fail
    refine HHas.out.mono ?_
    rintro e w9 ⟨rfl,hw⟩
    rw [hw]
    clear hw
    go_wp2_with fail
    go_roundw
    case rel=>exact⟨i+1,by omega,by go_num,HB6.out⟩
    case measure=>simp [iW];omega
   case inl =>
    obtain⟨mx,hmx,rfl,hmg⟩:=qG hm
    obtain⟨n0,hn0,e1,e2,e3,e4⟩:=HT.out.tw.node i _ hm
    rw [hn] at hn0
    cases hn0
    have e4:=e4 he
    obtain⟨hpar,hp1,hp2⟩:=YC HT.out hm hn
    rw [← HHs.out] at hpar
    have hkK:=HT.out.tw.kids i _ hm
    have hkk:∀(j k:Nat),mx.m.kids[j]? = some k→∃mk,lv (ms X) k=some mk:=fun j k hk=>by
     obtain⟨mk,h1,_⟩:=HT.out.tw.kid i _ k hm (ah hk)
     exact⟨mk,h1⟩
    have hatl:n.attrs.length≤64:=(HT.out.ok.nd _ n hn).al
    have hkdl:mx.m.kids.length≤1000000:=by have:=lX HT.out.ok.lk (σ i);rw [hkK,bM] at this;omega
    have HHd:=ae hhd
    have HKk:=ae hkK
    have HKl:=ae hkk
    have HN:=ae hn
    have HM:=ae hm
    clear hn hm hkK hkk
    refine RZ.sH ⟨L9 g R Q gh i (.slice (some ⟨gh,0,none⟩) X.length hvc) (S.hd (σ i)),Ez wq n true,VR n true,fun _ r=>.pointer (some ⟨r,0,none⟩),fun _=>jd jV,fun _=>62⟩ 18 (by kernel_rfl) (by kernel_rfl) (hS4 n true) Ez.alloc Ez.perm ⟨(ak _ _).drew,fun o ho=>(by cases ho)⟩ ?_
    simp only [mD,mr,l9,lZ]
    repeat (first
     | (refine RZ.aN (by rfl) (by rfl) (fun K hK=>?_);go_big_quiet_step (fail);refine az ?_;refine hK.out _ ?_;clear hK K)
     | (refine RZ.aK (by rfl) ?_;simp only [Act.put,dL,dK,dJ]))
    refine RZ.dM (by rfl) (by rfl) (fun w=>by go_simp;exact⟨rfl,rfl⟩) ⟨_,none,0,rfl⟩ (fun Y wx hx=>?_) (fun v hv=>?_)
    ·have hx1:Below wq.heap.size wq wx:=hx.1
     refine(wM (jF (HA.out.still hx1)) (S.hd (σ i)) hho (fV HT.out.ok.lk HN.out) (dN HN.out) (by have:=(HT.out.ok.nd _ n HN.out).al;omega)).mono ?_
     rintro e wy ⟨v',rfl,ho,hb⟩
     obtain⟨va,vc,rfl⟩:=bP ho
     exact⟨_,rfl,⟨va,vc,rfl⟩,aV hx1 hb,hx.2.below hb,fun v' e=>by rw [← AB e];exact iD ho (aZ _)⟩
    obtain⟨va,vc,rfl⟩:=hv
    simp only [Act.put,dL,dK,dJ]
    repeat (first
     | (refine RZ.aN (by rfl) (by rfl) (fun K hK=>?_);go_big_quiet_step (fail);refine az ?_;refine hK.out _ ?_;clear hK K)
     | (refine RZ.aK (by rfl) ?_;simp only [Act.put,dL,dK,dJ]))
    refine RZ.rY (fun r=>.pointer (some ⟨r,0,none⟩)) (jd jV) 62 rfl rfl rfl (by rfl) (by rfl) (fun w=>by go_simp;rfl) ?_
    intro r
    simp only [Act.put,dL,dK,dJ]
    repeat (first
     | (refine RZ.aN (by rfl) (by rfl) (fun K hK=>?_);go_big_quiet_step (fail);refine az ?_;refine hK.out _ ?_;clear hK K)
     | (refine RZ.aK (by rfl) ?_;simp only [Act.put,dL,dK,dJ]))
    refine RZ.Hf (by rfl) (by rfl) rfl (fun Y wx hY hx=>?_) (fun v hv=>?_)
    ·obtain⟨k5,h5⟩:=Ez.store hx (hY _ (List.Mem.head _))
     refine⟨_,?_,h5⟩
     have hrz:=k5.free
     have hrl:=k5.lt
     have c0:=k5.cell 0
     have c1:=k5.cell 1
     have c2:=k5.cell 2
     have c3:=k5.cell 3
     have c4:=k5.cell 4
     have c5:=k5.cell 5
     have c6:=k5.cell 6
     have c7:=k5.cell 7
     have c8:=k5.cell 8
     simp only [jd,jV,dA,fQ,fP] at c0 c1 c2 c3 c4 c5 c6 c7 c8
     clear h5 k5 hx hY
     simp only [UT,jd,dA]
     go_simp
    obtain rfl:v=undef:=hv
    simp only [Act.put,dL,dK,dJ]
    repeat (first
     | (refine RZ.aN (by rfl) (by rfl) (fun K hK=>?_);go_big_quiet_step (fail);refine az ?_;refine hK.out _ ?_;clear hK K)
     | (refine RZ.aK (by rfl) ?_;simp only [Act.put,dL,dK,dJ]))
    refine RZ.eH ?_
    rintro w6 ⟨hB6,r',va',ez1,hrW,hmem,k6,hO6⟩
    obtain rfl:=LW (eF.1 hmem)
    have ez2:=AB ez1
    subst ez2
    clear ez1
    have hB6:Below wq.heap.size wq w6:=hB6
    simp only [jd,dA] at k6 ⊢
    have HA6:=ae (HA.out.still hB6)
    have HB6:=ae (aV HB.out hB6)
    have HO6:=ae hO6
    have g1:=(bF HA6.out).cell 1
    simp only [fQ,fP] at g1
    have HHas:=ae (BV HA6.out i (by omega) ⟨hXp,by omega⟩)
    rw [HM.out] at HHas
    obtain⟨q0,q1,q2,q3,q4,q5,q6⟩:=YE (lG HA6.out) hmx
    have p0:=(lG HA6.out).W.ptr
    obtain⟨aa,ac,hav⟩:=aW ((lG HA6.out).W.sF mx (ah hmx))
    obtain⟨ka,kc,hkv⟩:=aW ((lG HA6.out).W.kid mx (ah hmx))
    have HAv:=ae hav
    have HKv:=ae hkv
    have HE4:=ae e4
    have HMx:=ae hmx
    rw [hav,← e4] at q2
    rw [hkv] at q5
    rw [← e1] at q0
    rw [← e2] at q1
    rw [← e3] at q3
    simp only [dA] at q1 q3
    generalize (⟨n.name.toArray⟩:ByteArray)=s1 at *
    generalize (⟨n.data.toArray⟩:ByteArray)=s2 at *
    generalize pI mx.m.par=pv at *
    have HP:=ae hpar
    clear y0 y2 y3 hne hS4 hB6 hgh hghl hO6 hav hkv e4 hmx e1 e2 e3 hpar hmem hrW
    go_wp2_with fail
    refine HHas.out.mono ?_
    rintro e w9 ⟨rfl,hw⟩
    rw [hw]
    clear hw
    go_upto_region 9 with fail
    have k8:=dD.new w6 [.int .i64 n.kind,.string s1,.slice aa n.attrs.length ac,.string s2,.int .i64 pv,.slice ka mx.m.kids.length kc,.bool false] 81
    have hB68:Below w6.heap.size w6 (w6.alloc (.cells #[.int .i64 n.kind,.string s1,.slice aa n.attrs.length ac,.string s2,.int .i64 pv,.slice ka mx.m.kids.length kc,.bool false] 81)):=(ak _ _).alloc (au _) _
    change dD (w6.alloc (.cells #[.int .i64 n.kind,.string s1,.slice aa n.attrs.length ac,.string s2,.int .i64 pv,.slice ka mx.m.kids.length kc,.bool false] 81)) _ _ _ at k8
    generalize w6.alloc (.cells #[.int .i64 n.kind,.string s1,.slice aa n.attrs.length ac,.string s2,.int .i64 pv,.slice ka mx.m.kids.length kc,.bool false] 81)=w8 at *
    have HK6:=ae (k6.below hB68)
    have HK8:=ae k8
    have HO8:=ae (bH HO6.out hB68)
    have HA8:=ae (HA6.out.still hB68)
    have HB8:=ae (aV HB6.out hB68)
    clear k6 k8 hB68 g1 q0 q1 q2 q3 q4 q5 q6 p0 HHas
    have hne:=gI w8
    have x0:=fun(x:dS (jc w8))=>(HK6.out.below x.h).cell 0
    have x1:=fun(x:dS (jc w8))=>(HK6.out.below x.h).cell 1
    have x2:=fun(x:dS (jc w8))=>(HK6.out.below x.h).cell 2
    have x3:=fun(x:dS (jc w8))=>(HK6.out.below x.h).cell 3
    have x4:=fun(x:dS (jc w8))=>(HK6.out.below x.h).cell 4
    have y0:=fun(x:dS (jc w8))=>(HK8.out.below x.h).cell 0
    have y1:=fun(x:dS (jc w8))=>(HK8.out.below x.h).cell 1
    have y2:=fun(x:dS (jc w8))=>(HK8.out.below x.h).cell 2
    have y3:=fun(x:dS (jc w8))=>(HK8.out.below x.h).cell 3
    have y4:=fun(x:dS (jc w8))=>(HK8.out.below x.h).cell 4
    simp only [fQ,fP] at x0 x1 x2 x3 x4 y0 y1 y2 y3 y4
    refine mW (fun _ _=>True) (fun _ v=>v=.int .i64 n.parent) 37 (by kernel_rfl) (by kernel_rfl) (fun _ _ _ _ _=>trivial) trivial ?_
    simp only [mD,mr,l9,lZ]
    repeat (first
     | (refine RV.aN (by rfl) (by rfl) (fun K hK=>?_);go_big_quiet_step (fail);refine az ?_;refine hK.out _ ?_;clear hK K)
     | (refine RV.aK (by rfl) ?_;simp only [Act.put,dL,dK,dJ]))
    refine RV.dM (by rfl) (by rfl) (fun w=>by go_simp;exact⟨rfl,rfl⟩) (⟨_,rfl⟩) (fun X wx hx=>?_) (fun v hv=>?_)
    ·refine(ry (bF (HA8.out.still hx.1)) (lL (HA8.out.still hx.1)) (by rw [HHl.out];omega) pv hp1 hp2).mono ?_
     rintro e wy ⟨rfl,hw⟩
     exact⟨_,rfl,by rw [HP.out],by rw [hw];exact hx.1,trivial⟩
    obtain rfl:v=.int .i64 n.parent:=hv
    simp only [Act.put,dL,dK,dJ]
    repeat (first
     | (refine RV.aN (by rfl) (by rfl) (fun K hK=>?_);go_big_quiet_step (fail);refine az ?_;refine hK.out _ ?_;clear hK K)
     | (refine RV.aK (by rfl) ?_;simp only [Act.put,dL,dK,dJ]))
    refine RV.eH ?_
    intro w9 hb9 _
    have HK6:=ae (HK6.out.below hb9)
    have HK8:=ae (HK8.out.below hb9)
    have HO9:=ae (bH HO8.out hb9)
    have HA9:=ae (HA8.out.still hb9)
    have HB9:=ae (aV HB8.out hb9)
    clear x0 x1 x2 x3 x4 y0 y1 y2 y3 y4 hne hb9 HO8 HA8 HB8 HA6 HB6 HO6
    go_wp2_with fail
    go_loopw [7] (fun jv wz=>WH w9 n.attrs.length jv wz) (fun jv _=>n.attrs.length - iW jv)
    case atStart=>exact⟨0,aZ _,rfl,ak _ _⟩
    case round =>
     obtain⟨j,hj,rfl,hBz⟩:=hrel
     obtain⟨wz,rfl⟩:∃q,q=wr:=⟨wr,rfl⟩
     have HBz:=ae hBz
     have z2:=(HK8.out.below hBz).cell 2
     simp only [fQ,fP] at z2
     have HAz:=ae (HA9.out.still hBz)
     by_cases hjl:j < n.attrs.length
     ·obtain⟨a,ha⟩:∃a,n.attrs[j]? = some a:=⟨_,ay hjl⟩
      have hajl:(j:Int) < (n.attrs.length:Int):=by omega
      obtain⟨ga,ca,ev,a1,a2⟩:=Yu (bH HO9.out hBz) ha
      cases ev
      have hOm:=(lG HAz.out).W.sF mx (ah HMx.out)
      rw [HAv.out,← HE4.out] at hOm
      obtain⟨gb,cb,ew,b1,b2⟩:=Yu hOm ha
      cases ew
      simp only [dA] at a1 a2 b1 b2
      generalize (⟨a.1.toArray⟩:ByteArray)=t1 at *
      generalize (⟨a.2.toArray⟩:ByteArray)=t2 at *
      clear hOm hBz
      go_upto_region 14 with fail
      have hne:=gI wz
      have x2:=fun(x:dS (jc wz))=>((HK6.out.below HBz.out).below x.h).cell 2
      have y2:=fun(x:dS (jc wz))=>((HK8.out.below HBz.out).below x.h).cell 2
      have u1:=fun(x:dS (jc wz))=>aU x.h a1
      have u2:=fun(x:dS (jc wz))=>aU x.h a2
      have u3:=fun(x:dS (jc wz))=>aU x.h b1
      have u4:=fun(x:dS (jc wz))=>aU x.h b2
      simp only [fQ,fP] at x2 y2
      clear a1 a2 b1 b2 z2
      refine mW (fun _ _=>True) (fun _ _=>True) 28 (by kernel_rfl) (by kernel_rfl) (fun _ _ _ _ _=>trivial) trivial ?_
      simp only [mD,mr,l9,lZ]
      repeat (first
       | (refine RV.aN (by rfl) (by rfl) (fun K hK=>?_);go_big_quiet_step (fail);refine az ?_;refine hK.out _ ?_;clear hK K)
       | (refine RV.aK (by rfl) ?_;simp only [Act.put,dL,dK,dJ]))
      refine RV.eH ?_
      intro w10 hb10 _
      have HB10:=ae (aV HBz.out hb10)
      clear x2 y2 u1 u2 u3 u4 hne hb10
      go_wp2_with fail
      go_roundw
      case rel=>exact⟨j+1,by omega,by go_num,HB10.out⟩
      case measure=>simp [iW];omega
     ·obtain rfl:j=n.attrs.length:=by omega
      obtain⟨gh',e2,_,hgh⟩:=jk HAz.out HHl.out i _ HHd.out
      cases e2
      have HK6:=ae (HK6.out.below hBz)
      have HK8:=ae (HK8.out.below hBz)
      have HBq:=ae (aV HB9.out hBz)
      clear hBz HO9 HA9 HB9
      go_upto_region 16 with fail
      have hne:=gI wz
      have y0:=fun(x:dS (jc wz))=>(bF (HAz.out.still x.h)).cell 0
      have y2:=fun(x:dS (jc wz))=>(bF (HAz.out.still x.h)).cell 2
      have y3:=fun(x:dS (jc wz))=>aU x.h hgh
      simp only [fQ,fP] at y0 y2
      refine mW (Vt (hC ((K (σ i)).map S.hd)) mx.m.kids.length) (fun _ v=>∃a c,v=.slice a mx.m.kids.length c) 13 (by kernel_rfl) (by kernel_rfl) Vt.below trivial ?_
      simp only [mD,mr,l9,lZ]
      repeat (first
       | (refine RV.aN (by rfl) (by rfl) (fun K hK=>?_);go_big_quiet_step (fail);refine az ?_;refine hK.out _ ?_;clear hK K)
       | (refine RV.aK (by rfl) ?_;simp only [Act.put,dL,dK,dJ]))
      refine RV.dM (by rfl) (by rfl) (fun w=>by go_simp;exact⟨rfl,rfl⟩) (⟨_,none,0,rfl⟩) (fun X wx hx=>?_) (fun v hv=>?_)
      ·have hx1:Below wz.heap.size wz wx:=hx.1
       refine(pV (jF (HAz.out.still hx1)) HT.out.ok.lk (σ i) n HN.out).mono ?_
       rintro e wy ⟨v,rfl,ho,hb⟩
       rw [show(K (σ i)).length=mx.m.kids.length by rw [HKk.out,bM]] at ho
       obtain⟨ka',kc',rfl⟩:=bP ho
       exact⟨_,rfl,⟨ka',kc',rfl⟩,aV hx1 hb,iD ho (aZ _)⟩
      obtain⟨kva,kvc,rfl⟩:=hv
      simp only [Act.put,dL,dK,dJ]
      repeat (first
       | (refine RV.aN (by rfl) (by rfl) (fun K hK=>?_);go_big_quiet_step (fail);refine az ?_;refine hK.out _ ?_;clear hK K)
       | (refine RV.aK (by rfl) ?_;simp only [Act.put,dL,dK,dJ]))
      refine RV.eH ?_
      intro w11 hb11 hk11
      have HK:=ae (show Own w11 3 1 (.slice kva mx.m.kids.length kvc) mx.m.kids.length (hC ((K (σ i)).map S.hd)) from hk11)
      have hb11:Below wz.heap.size wz w11:=hb11
      have HA11:=ae (HAz.out.still hb11)
      have HB11:=ae (aV HBq.out hb11)
      have HK8:=ae (HK8.out.below hb11)
      have hg11:=aU hb11 hgh
      clear y0 y2 y3 hne hb11 hk11 hgh z2 HK6 HAz HBz HBq
      go_upto_region 17 with fail
      have hne:=gI w11
      have y0:=fun(x:dS (jc w11))=>(bF (HA11.out.still x.h)).cell 0
      have y1:=fun(x:dS (jc w11))=>(bF (HA11.out.still x.h)).cell 1
      have y2:=fun(x:dS (jc w11))=>(bF (HA11.out.still x.h)).cell 2
      have y3:=fun(x:dS (jc w11))=>aU x.h hg11
      have x5:=fun(x:dS (jc w11))=>(HK8.out.below x.h).cell 5
      simp only [fQ,fP] at y0 y1 y2 x5
      obtain⟨q,HI1,HI2⟩:=YA (R:=R) (Q:=Q) (gs:=gs) (cs:=caps) (gm:=gm) (cm:=capm) (fv:=fv) HT.out hX HM.out HN.out
      have HI1:=ae HI1
      have HI2:=ae HI2
      refine mW (fun _ _=>True) (fun _ v=>v=.int .i64 q) 27 (by kernel_rfl) (by kernel_rfl) (fun _ _ _ _ _=>trivial) trivial ?_
      simp only [mD,mr,l9,lZ]
      repeat (first
       | (refine RV.aN (by rfl) (by rfl) (fun K hK=>?_);go_big_quiet_step (fail);refine az ?_;refine hK.out _ ?_;clear hK K)
       | (refine RV.aK (by rfl) ?_;simp only [Act.put,dL,dK,dJ]))
      refine RV.dM (by rfl) (by rfl) (fun w=>by go_simp;exact⟨rfl,rfl⟩) (⟨_,rfl⟩) (fun X wx hx=>?_) (fun v hv=>?_)
      ·refine(HI1.out _ (jF (HA11.out.still hx.1))).mono ?_
       rintro e wy ⟨rfl,hb⟩
       exact⟨_,rfl,rfl,aV hx.1 hb,trivial⟩
      obtain rfl:v=.int .i64 q:=hv
      simp only [Act.put,dL,dK,dJ]
      repeat (first
       | (refine RV.aN (by rfl) (by rfl) (fun K hK=>?_);go_big_quiet_step (fail);refine az ?_;refine hK.out _ ?_;clear hK K)
       | (refine RV.aK (by rfl) ?_;simp only [Act.put,dL,dK,dJ]))
      refine RV.dM (by rfl) (by rfl) (fun w=>by go_simp;exact⟨rfl,rfl⟩) (⟨_,rfl⟩) (fun X wx hx=>?_) (fun v hv=>?_)
      ·refine(HI2.out _ (lG (HA11.out.still hx.1))).mono ?_
       rintro e wy ⟨rfl,hw⟩
       exact⟨_,rfl,rfl,by rw [hw];exact hx.1,trivial⟩
      obtain rfl:v=.int .i64 q:=hv
      simp only [Act.put,dL,dK,dJ]
      repeat (first
       | (refine RV.aN (by rfl) (by rfl) (fun K hK=>?_);go_big_quiet_step (fail);refine az ?_;refine hK.out _ ?_;clear hK K)
       | (refine RV.aK (by rfl) ?_;simp only [Act.put,dL,dK,dJ]))
      refine RV.eH ?_
      intro w12 hb12 _
      have HA12:=ae (HA11.out.still hb12)
      have HB12:=ae (aV HB11.out hb12)
      have HK8:=ae (HK8.out.below hb12)
      have HK:=ae (bH HK.out hb12)
      clear y0 y1 y2 y3 x5 hne hb12 hg11 HA11 HB11 HI1 HI2
      go_wp2_with fail
      go_loopw [9] (fun jv wz=>WH w12 mx.m.kids.length jv wz) (fun jv _=>mx.m.kids.length - iW jv)
      case atStart=>exact⟨0,aZ _,rfl,ak _ _⟩
      case round =>
       obtain⟨j,hj,rfl,hBy⟩:=hrel
       obtain⟨wy,rfl⟩:∃q,q=wr:=⟨wr,rfl⟩
       have HBy:=ae hBy
       have HAy:=ae (HA12.out.still hBy)
       by_cases hjl:j < mx.m.kids.length
       ·obtain⟨k,hk⟩:∃k,mx.m.kids[j]? = some k:=⟨_,ay hjl⟩
        have hajl:(j:Int) < (mx.m.kids.length:Int):=by omega
        obtain⟨mk,hmk⟩:=HKl.out j k hk
        have hkX:=kH ⟨mk,hmk⟩
        rw [aY] at hkX
        have hakX:(k:Int) < (X.length:Int):=by omega
        obtain⟨gk,ck,ek,k1⟩:=pO (bH HK.out hBy) (j:=j) (x:=S.hd (σ k)) (by rw [HKk.out,nK,bI,hk];rfl)
        cases ek
        have hOk:=(lG HAy.out).W.kid mx (ah HMx.out)
        rw [HKv.out] at hOk
        obtain⟨gk2,ek2,k2⟩:=uu (iD hOk (aZ _)) hk
        subst ek2
        obtain⟨gh',e2,_,k3⟩:=jk HAy.out HHl.out k (S.hd (σ k)) (by rw [HHs.out];exact A7 hmk)
        cases e2
        clear hOk hBy
        go_upto_region 22 with fail
        have hne:=gI wy
        have y2:=fun(x:dS (jc wy))=>(bF (HAy.out.still x.h)).cell 2
        have x5:=fun(x:dS (jc wy))=>((HK8.out.below HBy.out).below x.h).cell 5
        have u1:=fun(x:dS (jc wy))=>aU x.h k1
        have u2:=fun(x:dS (jc wy))=>aU x.h k2
        have u3:=fun(x:dS (jc wy))=>aU x.h k3
        simp only [fQ,fP] at y2 x5
        clear k1 k2 k3
        refine mW (fun _ _=>True) (fun _ _=>True) 16 (by kernel_rfl) (by kernel_rfl) (fun _ _ _ _ _=>trivial) trivial ?_
        simp only [mD,mr,l9,lZ]
        repeat (first
         | (refine RV.aN (by rfl) (by rfl) (fun K hK=>?_);go_big_quiet_step (fail);refine az ?_;refine hK.out _ ?_;clear hK K)
         | (refine RV.aK (by rfl) ?_;simp only [Act.put,dL,dK,dJ]))
        refine RV.eH ?_
        intro w13 hb13 _
        have HB13:=ae (aV HBy.out hb13)
        clear y2 x5 u1 u2 u3 hne hb13
        go_wp2_with fail
        go_roundw
        case rel=>exact⟨j+1,by omega,by go_num,HB13.out⟩
        case measure=>simp [iW];omega
       ·obtain rfl:j=mx.m.kids.length:=by omega
        clear hBy
        go_wp2_with fail
        go_roundw
        case rel=>exact⟨i+1,by omega,by go_num,aV HB12.out HBy.out⟩
        case measure=>simp [iW];omega
  ·obtain rfl:i=X.length:=by omega
   go_wp2_with fail
   go_ret
   exact⟨rfl,HB.out⟩
end Go.Proofs.YtfelmdkeaacfeaaGreatDoor.W
end
section
namespace Go.Proofs.YtfelmdkeaacfeaaGreatDoor.W
open Go.RowKit
theorem UW.below {w w':World}{A:Option Addr}{n:Nat}{f:Nat→ou}(h:UW w A n f)(hb:Below w.heap.size w w'):UW w' A n f:=fun hn=>by
 obtain⟨b,off,e,hl,hc⟩:=h hn
 refine⟨b,off,e,aO hl hb.size,fun j hj=>?_⟩
 obtain⟨h0,h1,h2,h3,h4,h5,h6,h7⟩:=hc j hj
 exact⟨aU hb h0,aU hb h1,aU hb h2,aU hb h3,aU hb h4,aU hb h5,aU hb h6,aU hb h7⟩
theorem ou.In.ok {o:ou}(h:o.In)(h1:o.s.length≤40∧o.t.length≤40):o.Ok:=⟨h.k,h.a,h.b,h.c,h1.1,h1.2,h.n,h.kk⟩
def Wj (w:World)(g:Nat)(i:Nat)(wr:World):Prop :=
 ∃R Q hv sv fv nv S K d X σ,All w.heap.size w (kK g R Q hv (iZ S σ (ms X)) S sv fv nv X ++ []) wr∧CX True (fun _=>False) i 0 S K d (ms X) σ
def VZ (w:World)(g n:Nat)(iv:Value)(wr:World):Prop:=∃i:Nat,i≤n∧iv=.int .i64 (i:Int)∧Wj w g i wr
end Go.Proofs.YtfelmdkeaacfeaaGreatDoor.W
end
