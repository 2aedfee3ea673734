/- Texts joined: OpU. -/
import Derived.Test.YtfelmdkeaacfeaaGreatDoorTU3
set_option maxRecDepth 100000
set_option maxHeartbeats 40000000
set_option linter.unusedVariables false
set_option linter.unusedSimpArgs false
section
namespace Go.Proofs.YtfelmdkeaacfeaaGreatDoor.W
open Go.ChangeShapes Go.WideShapes Go.ChangeAt Go.RowKit Go.Joins Go.Deep
section
variable {H : Type} {enc : TypeId × Value → H} {P : Program} {w : World}
theorem YS {r:Reach}{b0:Nat}{e:TypeId}{f0 f1 f2 f3 f4 f5 f6 f7:Field}{v:Value}{d:DataW H}{ps:List MemPlace}(he:P.underlying e=some (.struct #[f0,f1,f2,f3,f4,f5,f6,f7]))
  (hone:oneCellFields P #[f0,f1,f2,f3,f4,f5,f6,f7]=true)(hC:P.cellsOf e=8)(e0:P.underlying f0.type=some (.int .u8))(e1:P.underlying f1.type=some (.int .u8))(e2:P.underlying f2.type=some (.int .u8))(e3:P.underlying f3.type=some (.int .u8))(e4:P.underlying f4.type=some .string)(e5:P.underlying f5.type=some .string)(e6:P.underlying f6.type=some (.int .i8))(e7:P.underlying f7.type=some (.int .i8))
  (hval:Value.okWide P w r b0 e v)(h:DataW.Trod enc P w 0 (fun _=>true) true e v d ps) :
  ∃o:ou,v=.agg (opC o).toArray∧o.In:=by
 simp only [Value.okWide,he] at hval
 obtain⟨ca,rfl,hsz,_⟩:=hval
 obtain⟨cs⟩:=ca
 have hlen:cs.length=8:=by rw [hC] at hsz;simpa using hsz
 obtain⟨fuel,hf⟩:=h
 simp only [Value.cells] at hf
 obtain⟨o0,k0⟩:=hone_of hone 0 f0 rfl
 obtain⟨o1,k1⟩:=hone_of hone 1 f1 rfl
 obtain⟨o2,k2⟩:=hone_of hone 2 f2 rfl
 obtain⟨o3,k3⟩:=hone_of hone 3 f3 rfl
 obtain⟨o4,k4⟩:=hone_of hone 4 f4 rfl
 obtain⟨o5,k5⟩:=hone_of hone 5 f5 rfl
 obtain⟨o6,k6⟩:=hone_of hone 6 f6 rfl
 obtain⟨o7,k7⟩:=hone_of hone 7 f7 rfl
 obtain⟨xs,k',_,_,_,hxl,hg⟩:=DataW.trod_struct he hf
 match xs,hxl,cs,hlen with
 | [y0,y1,y2,y3,y4,y5,y6,y7],_,[v0,v1,v2,v3,v4,v5,v6,v7],_ =>
  have g0:=hg 0 f0 rfl
  have g1:=hg 1 f1 rfl
  have g2:=hg 2 f2 rfl
  have g3:=hg 3 f3 rfl
  have g4:=hg 4 f4 rfl
  have g5:=hg 5 f5 rfl
  have g6:=hg 6 f6 rfl
  have g7:=hg 7 f7 rfl
  simp [o0,o1,o2,o3,o4,o5,o6,o7,k0,k1,k2,k3,k4,k5,k6,k7] at g0 g1 g2 g3 g4 g5 g6 g7
  obtain⟨x0,z0,_,w0⟩:=vz e0 g0
  obtain⟨x1,z1,_,w1⟩:=vz e1 g1
  obtain⟨x2,z2,_,w2⟩:=vz e2 g2
  obtain⟨x3,z3,_,w3⟩:=vz e3 g3
  obtain⟨x4,z4,_⟩:=DataW.trod_string e4 g4
  obtain⟨x5,z5,_⟩:=DataW.trod_string e5 g5
  obtain⟨x6,z6,_,w6⟩:=vz e6 g6
  obtain⟨x7,z7,_,w7⟩:=vz e7 g7
  simp at z0 z1 z2 z3 z4 z5 z6 z7
  subst z0 z1 z2 z3 z4 z5 z6 z7
  obtain⟨r0,r0'⟩:=zT w0
  obtain⟨r1,r1'⟩:=zT w1
  obtain⟨r2,r2'⟩:=zT w2
  obtain⟨r3,r3'⟩:=zT w3
  refine⟨⟨x0.toNat,x1.toNat,x2.toNat,x3.toNat,x4.data.toList,x5.data.toList,x6,x7⟩,?_,⟨r0,r1,r2,r3,bounds_i8 w6,bounds_i8 w7⟩⟩
  simp only [opC,r0',r1',r2',r3',Py]
end
end Go.Proofs.YtfelmdkeaacfeaaGreatDoor.W
end
