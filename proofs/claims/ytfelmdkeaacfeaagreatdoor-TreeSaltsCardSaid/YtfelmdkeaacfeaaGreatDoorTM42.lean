/- Texts joined: DoQ DoR DoS Do8. -/
import Derived.Test.YtfelmdkeaacfeaaGreatDoorTM1
import Derived.Test.YtfelmdkeaacfeaaGreatDoorTM41
set_option maxRecDepth 100000
set_option maxHeartbeats 40000000
set_option linter.unusedVariables false
set_option linter.unusedSimpArgs false
section
namespace Go.Proofs.YtfelmdkeaacfeaaGreatDoor.W
open Go.RowKit
inductive CpyT (S:Tr) (K:Nat→List Nat) (d:Nat→Nat) (i:Nat) (n:Nd) (deep:Bool):Tr→Int→Int→Prop
 | doc (h:n.kind=1):CpyT S K d i n deep S 0 10
 | deep (h:n.kind≠1) (hd:deep=true) (S':Tr) (K':Nat→List Nat) (d':Nat→Nat) (r:Nat→Nat) (C:CpD S K d S' K' d' i K (wlk K (128 - d i) i) r):CpyT S K d i n deep S' (S.hd (r i)) 0
 | flat (h:n.kind≠1) (hd:deep=false) (S':Tr) (K':Nat→List Nat) (d':Nat→Nat) (r:Nat→Nat) (C:CpD S K d S' K' d' i (kJ K i 0) [i] r):CpyT S K d i n deep S' (S.hd (r i)) 0
section
variable {B : Nat} {w0 w w' W W' : World} {l : List Ob} {g R Q b gh i : Nat} {hv hv' sv fv nv : Value} {S : Tr} {K : Nat → List Nat} {d : Nat → Nat} {X : List MX} {Hs Hs' : List Int} {hd : Int} {n : Nd} {deep : Bool} {c : Nat}
theorem tcpy_any (h:TAt 0 R S sv fv w)(T:TrOk c S K d)(i:Nat)(n:Nd)(hi:S.at i=some n)(hs:S.slots.length≤3000)(deep:Bool) :
  Calls Tryz.prog 23 #[.pointer (some ⟨R,0,none⟩),.int .i64 (S.hd i),.bool deep] w fun e w'=>∃S' sv' fv' h er,CpyT S K d i n deep S' h er∧e=.returned (.tuple #[.int .i64 h,.int .i64 er])∧TrOut R S sv fv w S' sv' fv' w':=by
 have hfl:=T.freel
 have hal:∀x m,S.at x=some m→m.attrs.length≤1000:=fun x m hx=>by have:=(T.nd x m hx).al;omega
 by_cases hk:n.kind=1
 ·refine(tcopy_doc h T.lk i n hi hk deep).mono ?_
  rintro e w' ⟨rfl,hb⟩
  exact⟨S,sv,fv,0,10,.doc hk,rfl,TrOut.refl h hb⟩
 ·cases deep with
  | true =>
   refine(tcopy_deep h T.lk T.fr T.frnd i n hi hk hal (by omega) (by have:=wlk_len T.lk (128 - d i) i (by rw [hi];rfl);omega)).mono ?_
   rintro e w' ⟨h',rfl,S',sv',fv',K',d',r,he,hT,hC,hch,h1,h2,h3⟩
   obtain rfl:h'=S.hd (r i):=by simpa using he
   exact⟨S',sv',fv',_,0,.deep hk rfl S' K' d' r hC,rfl,hT,hch.mono (fun k _ hk=>hk.imp id .inl),h3⟩
  | false =>
   refine(tcopy_flat h T.lk T.fr T.frnd i n hi hk (hal i n hi) (by omega) (by omega)).mono ?_
   rintro e w' ⟨h',rfl,S',sv',fv',K',d',r,he,hT,hC,hch,h1,h2,h3⟩
   obtain rfl:h'=S.hd (r i):=by simpa using he
   exact⟨S',sv',fv',_,0,.flat hk rfl S' K' d' r hC,rfl,hT,hch.mono (fun k _ hk=>hk.imp id .inl),h3⟩
abbrev bxO (b g:Nat):Ob:=bk b [.pointer (some ⟨g,0,none⟩)] 25
structure CqS (g R Q gh i b:Nat) (hv:Value) (hd:Int) (w:World):Prop where
 bk:Blk w g [.pointer (some ⟨R,0,none⟩),.pointer (some ⟨Q,0,none⟩),hv] 33
 hc:w.cell? ⟨gh,i,none⟩=some (.int .i64 hd)
 bx:Blk w b [.pointer (some ⟨g,0,none⟩)] 25
theorem cq_bx (h:All B w0 (twL g R Q hv Hs S sv fv nv X ++ bxO b g :: l) w):Blk w b [.pointer (some ⟨g,0,none⟩)] 25:=h.P (bxO b g) (by simp)
def CRes (B:Nat)(w0:World)(l:List Ob)(g R Q b:Nat)(hv:Value)(Hs:List Int)(nv:Value)(X:List MX)(S:Tr)(K:Nat→List Nat)(d:Nat→Nat)(i:Nat)(n:Nd)(deep:Bool)(v:Value)(w':World):Prop :=
 ∃S' sv' fv' h er,v=.tuple #[.int .i64 h,.int .i64 er]∧CpyT S K d i n deep S' h er∧All B w0 (twL g R Q hv Hs S' sv' fv' nv X ++ bxO b g :: l) w'
theorem cres_below {i:Nat}(v:Value)(w1 w2:World)(h:CRes B w0 l g R Q b hv Hs nv X S K d i n deep v w1)(hb:Below w1.heap.size w1 w2):CRes B w0 l g R Q b hv Hs nv X S K d i n deep v w2:=by
 obtain⟨S',sv',fv',h,er,e,hr,hA⟩:=h
 exact⟨S',sv',fv',h,er,e,hr,hA.still hb⟩
theorem cq_0 {m vc:Nat}(hA:All B w0 (twL g R Q (.slice (some ⟨gh,0,none⟩) m vc) Hs S sv fv nv X ++ bxO b g :: l) w)(hc:w.cell? ⟨gh,i,none⟩=some (.int .i64 hd))(w':World)(h:StB w w'):CqS g R Q gh i b (.slice (some ⟨gh,0,none⟩) m vc) hd w' :=
 ⟨tw_bk (hA.still h),cell_keep h hc,cq_bx (hA.still h)⟩
theorem cq_1 {m vc y:Nat}(hn:Hs.length=m)(hi:Hs[i]? = some hd)(v:Value)(w':World)(h:CRes B w0 l g R Q b (.slice (some ⟨gh,0,none⟩) m vc) Hs nv X S K d y n deep v w'):CqS g R Q gh i b (.slice (some ⟨gh,0,none⟩) m vc) hd w':=by
 obtain⟨S',sv',fv',v0,er,e,hr,hA⟩:=h
 obtain⟨gh',e2,_,hc⟩:=tw_hcell hA hn i hd hi
 cases e2
 exact⟨tw_bk hA,hc,cq_bx hA⟩
theorem slC_tw (h:All B w0 (twL g R Q hv Hs S sv fv nv X ++ l) w):slC g w=hv.ownBlock:=by
 have:=(tw_bk h).cell 2
 simp only [zzD,zzE] at this
 unfold slC;rw [this];rfl
theorem tw_wkj (h:All B w0 (twL g R Q hv Hs S sv fv nv X ++ l) w)(W:World)(k:WkJ g w W):TAt 0 R S sv fv W:=by
 have ap:=h.apart
 simp only [twL,List.cons_append,List.nil_append,List.pairwise_cons] at ap
 obtain⟨a1,a2,_⟩:=ap
 refine(trO R S sv fv).loc w W (tw_tr h) (fun i hi=>?_)
 obtain⟨cur,t,hc,_⟩:=trF_ty (tw_tr h) hi
 refine(k.kpt.kept i _ _ _ hc (fun e=>?_) (fun e=>?_)).trans hc.symm
 ·exact a1 (trO R S sv fv) (by simp) i e hi
 ·rw [slC_tw h] at e
  exact a2 (trO R S sv fv) (by simp) i e hi
theorem tw_wkj0 (h:All B w0 (twL g R Q hv Hs S sv fv nv X ++ l) w):WkJ g w w :=
 ⟨⟨Nat.le_refl _,fun _ _ _ _ h _ _=>h,.inl rfl⟩,(tw_bk h).lt,fun k hk=>by rw [slC_tw h] at hk;exact own_lt (tw_hs h) hk⟩
theorem All.grownBy {row:Option Nat}(h:All B w0 l w)(hg:w.grownBy w' row)(hr:∀k,row=some k→B≤k∧∀o∈l,¬o.F k):All B w0 l w' :=
 ⟨fun o ho=>o.loc w w' (h.P o ho) (fun k hk=>hg.block k (o.here w (h.P o ho) k hk) (fun e=>(hr k e.symm).2 o ho hk)),h.apart,h.base,h.below.grown hg h.le (fun k e=>(hr k e).1),Nat.le_trans h.le hg.size⟩
theorem cp_own {row:Option Nat}(h0:All B w0 (twL g R Q hv Hs S sv fv nv X ++ l) w)(hI:All B w0 (twL g R Q hv' Hs' S sv fv nv X ++ l) W)(hg:W.grownBy W' row)(hr:∀k,row=some k→w.heap.size≤k∧∃o:Obj,W.heap[k]? = some o∧o.isCells=false):All B w0 (twL g R Q hv' Hs' S sv fv nv X ++ l) W':=by
 refine hI.grownBy hg (fun k e=>⟨Nat.le_trans h0.le (hr k e).1,fun o ho hk=>?_⟩)
 obtain⟨h1,ob,h2,h3⟩:=hr k e
 simp only [twL,List.cons_append,List.nil_append,List.mem_cons] at ho
 rcases ho with rfl | rfl | ho
 ·have:k=g:=hk
  have:=(tw_bk h0).lt
  omega
 ·obtain⟨cur,hc⟩:=own_ty (tw_hs hI) hk
  rw [hc] at h2;cases h2;cases h3
 ·have:=o.here w (h0.P o (by simp only [twL,List.cons_append,List.nil_append,List.mem_cons];exact .inr (.inr ho))) k hk
  omega
structure RdS (g R Q b:Nat) (hv:Value) (w:World):Prop where
 bk:Blk w g [.pointer (some ⟨R,0,none⟩),.pointer (some ⟨Q,0,none⟩),hv] 33
 bx:Blk w b [.pointer (some ⟨g,0,none⟩)] 25
def RdC (W:World)(hv:Value)(xs:List Int)(u:Int):List Value→List Ob→World→Prop
 | [],_,w'=>Below W.heap.size W w'
 | [v0],_,w'=>Below W.heap.size W w'∧(∃g0,v0=.slice (some ⟨g0,0,none⟩) 1 1)∧Own w' 3 1 v0 1 [.int .i64 u]
 | [v1,_],_,w'=>Chg (fun b=>hv.ownBlock=some b) W w'∧Own w' 3 1 v1 (xs.length+1) (hC xs ++ [.int .i64 u])∧(v1.ownBlock=hv.ownBlock∨∀b,v1.ownBlock=some b→W.heap.size≤b)
 | _,_,_=>False
def RdV (n:Nat):List Value→Value→Prop
 | [],v=>∃g0,v=.slice (some ⟨g0,0,none⟩) 1 1
 | _,v=>∃a c,v=.slice a (n+1) c
theorem RdC.alloc {xs:List Int}{u:Int}(k:List Value)(Y:List Ob)(w':World)(cs:List Value)(ty:TypeId)(h:RdC W hv xs u k Y w'):RdC W hv xs u k (Go.Proofs.YtfelmdkeaacfeaaGreatDoor.W.bk w'.heap.size cs ty :: Y) (w'.alloc (.cells cs.toArray ty)):=by
 have hb:Below w'.heap.size w' (w'.alloc (.cells cs.toArray ty)):=(Below.refl _ _).alloc (Nat.le_refl _) _
 match k,h with
 | [],h=>exact bthen h hb
 | [v0],h=>exact⟨bthen h.1 hb,h.2.1,own_belowM h.2.2 hb⟩
 | [v1,_],h=>exact⟨h.1.trans (Chg.of_below hb) (fun _ _ e=>e),own_belowM h.2.1 hb,h.2.2⟩
theorem RdC.perm {xs:List Int}{u:Int}(k:List Value)(Y Z:List Ob)(w':World)(hp:Y.Perm Z)(h:RdC W hv xs u k Y w'):RdC W hv xs u k Z w':=by
 match k,h with
 | [],h=>exact h
 | [v0],h=>exact h
 | [v1,_],h=>exact h
theorem RdC.chg {xs:List Int}{u:Int}{k:List Value}{Y:List Ob}(h:RdC W hv xs u k Y w'):Chg (fun b=>hv.ownBlock=some b) W w':=by
 match k,h with
 | [],h=>exact Chg.of_below h
 | [v0],h=>exact Chg.of_below h.1
 | [v1,_],h=>exact h.1
theorem rd_S {u:Int}(hA:All B w0 (twL g R Q hv Hs S sv fv nv X ++ bxO b g :: l) W)(k:List Value)(Y:List Ob)(w':World)(h:RdC W hv Hs u k Y w'):RdS g R Q b hv w':=by
 have hc:=h.chg
 have hb:=tw_bk hA
 have hx:=cq_bx hA
 refine⟨hb.kept (hc.block g hb.lt (fun e=>?_)),hx.kept (hc.block b hx.lt (fun e=>?_))⟩
 ·obtain⟨cur,hcur⟩:=own_ty (tw_hs hA) e
  exact blk_ne hcur hb (by decide) rfl
 ·obtain⟨cur,hcur⟩:=own_ty (tw_hs hA) e
  exact blk_ne hcur hx (by decide) rfl
theorem rd_put {u:Int}{v:Value}(hA:All B w0 (twL g R Q hv Hs S sv fv nv X ++ l) W)(hch:Chg (fun b=>hv.ownBlock=some b) W w')(ho:Own w' 3 1 v (Hs.length+1) (hC Hs ++ [.int .i64 u]))(hl:v.ownBlock=hv.ownBlock∨∀b,v.ownBlock=some b→W.heap.size≤b) :
  All B w0 (twL g R Q v (Hs ++ [u]) S sv fv nv X ++ l) (w'.setCell ⟨g,2,none⟩ v)∧KpT g W (w'.setCell ⟨g,2,none⟩ v)∧KeepsOthers W (w'.setCell ⟨g,2,none⟩ v):=by
 have h1:All B w0 ([bk g [.pointer (some ⟨R,0,none⟩),.pointer (some ⟨Q,0,none⟩),hv] 33] ++ sl 3 1 v (Hs.length+1) (hC Hs ++ [.int .i64 u]) :: ([trO R S sv fv,mdO Q nv X] ++ l)) w':=by
  refine All.step [bk g [.pointer (some ⟨R,0,none⟩),.pointer (some ⟨Q,0,none⟩),hv] 33] (o:=sl 3 1 hv Hs.length (hC Hs)) (l2:=[trO R S sv fv,mdO Q nv X] ++ l) hA ho hch (fun k hk=>?_)
  rcases hl with e | e
  ·exact .inl (by show hv.ownBlock=some k;rw [← e];exact hk)
  ·exact .inr (e k hk)
 have h2:=tw_push (hh:=u) h1
 have hgl:=(tw_bk hA).lt
 refine⟨h2,⟨?_,fun k cs t fr hk h3 h4=>?_,?_⟩,?_⟩
 ·have:=hch.size
  simpa [World.setCell] using this
 ·rw [slC_tw hA] at h4
  exact(Below.heap_setCell _ _ _ _ h3).trans ((hch.block k (hlt hk) h4).trans hk)
 ·rw [slC_tw h2,slC_tw hA]
  rcases hl with e | e
  ·exact .inl e
  ·exact .inr (fun k hk=>⟨e k hk,own_lt (tw_hs h2) hk⟩)
 ·refine KeepsOthers.trans ⟨hch.size,fun k o hk ho=>(hch.block k (hlt hk) (fun e=>?_)).trans hk⟩ (KeepsOthers.setCell _ _ _)
  obtain⟨cur,hcur⟩:=own_ty (tw_hs hA) e
  rw [hcur] at hk;cases hk;cases ho
end
theorem KpT.put2 {b:Nat}{W:World}(l:Nat)(o o':Obj)(h:W.heap[l]? = some o)(ho:o.isCells=false)(hb:b≠l):KpT b W (W.putObj l o'):=by
 have hne:∀(k:Nat) (cs:Array Value) (t:TypeId) (fr:Nat×Nat),W.heap[k]? = some (Obj.cells cs t fr)→k≠l:=fun k cs t fr hk e=>by
  subst e;rw [hk] at h;cases h;cases ho
 refine⟨by simp,fun k cs t fr hk _ _=>(World.putObj_heap_other (hne k cs t fr hk)).trans hk,.inl ?_⟩
 unfold slC
 have e:(W.putObj l o').heap[b]? = W.heap[b]?:=World.putObj_heap_other hb
 unfold World.cell?
 simp only [e]
section
variable {ex : Prop} {E : Nat → Prop} {c x : Nat} {B : Nat} {w0 : World} {l : List Ob} {g R Q : Nat} {S S' : Tr} {K : Nat → List Nat} {d : Nat → Nat} {X X' : List MX} {σ : Nat → Nat} {o : OpV}
theorem cpy_both (T:TwS ex E c x S K d (ms X) σ)(hE:∀y,E y→(S.at y).isSome=true)(hX:X.length≤600)(hx:x≤2000)(hk:o.k % 10=8){ma:MN}{n:Nd}(ha:lv (ms X) (o.iA (ms X).length)=some ma)(hn:S.at (σ (o.iA (ms X).length))=some n){h er en:Int}
  (ht:CpyT S K d (σ (o.iA (ms X).length)) n (decide (0 < o.n)) S' h er)
  (hm:(o.iA (ms X).length=0∧en=10∧ms X'=ms X)∨(o.iA (ms X).length≠0∧en=0∧ms X'=ms X ++ (if decide (0 < o.n)=true then(wlk (kM (ms X)) (128 - d (σ (o.iA (ms X).length))) (o.iA (ms X).length)).map (cpN (ms X) (psi (wlk (kM (ms X)) (128 - d (σ (o.iA (ms X).length))) (o.iA (ms X).length)) X.length) (o.iA (ms X).length) none) else [⟨ma.kind,ma.name,ma.attrs,ma.data,none,[],false⟩]))) :
  (er=10∧en=10∧h=0∧∀w hv sv fv nv,All B w0 (twL g R Q hv (hsOf S σ (ms X)) S' sv fv nv X' ++ l) w→DoR ex E c x B w0 l g R Q S K d (ms X) σ o (.returned (.tuple #[.slice none 0 0,.bool true])) w) ∨
  (er=0∧en=0∧∃(K':Nat→List Nat) (d':Nat→Nat) (q:Nat) (nq:Nd),h=S'.hd q∧Lk S' K' d'∧S'.at q=some nq∧X'.length=X.length+(wlk K' (128 - d' q) q).length∧(wlk K' (128 - d' q) q).length≤3000 ∧
   ∀w hv sv fv nv,All B w0 (twL g R Q hv (hsOf S σ (ms X) ++ (wlk K' (128 - d' q) q).map S'.hd) S' sv fv nv X' ++ l) w→DoR ex E c x B w0 l g R Q S K d (ms X) σ o (.returned (.tuple #[.slice none 0 0,.bool true])) w):=by
 have hl:=T.lim
 have hz:=T.tw.zero
 have hMl:=ms_len X
 cases ht with
 | doc h1 =>
  have h0:o.iA (ms X).length=0:=by
   by_cases e:o.iA (ms X).length=0
   ·exact e
   ·obtain⟨z,m0,hm0⟩:=hz
    exact absurd h1 (T.ok.other _ n hn (fun e2=>e (T.tw.inj _ 0 ma m0 ha hm0 (by rw [z];exact e2))))
  rcases hm with ⟨_,e1,e2⟩ | ⟨e1,_⟩
  ·refine .inl ⟨rfl,e1,rfl,fun w hv sv fv nv hA=>?_⟩
   have hst:MStep (ms X) (fun i=>d (σ i)) o (ms X') []:=by rw [e2];exact .cpy ma _ 10 hk ha (.doc h0)
   have hb:=both_nil T.ok T.tw T.cl 10
   rw [← e2] at hb
   exact do_close (er:=10) (en:=10) (ls:=[]) (rs:=[]) (ts:=[]) T (by rw [← e2];exact hb) (hA.nil _ _) rfl (fun _=>⟨rfl,rfl⟩) hst (by omega)
  ·exact absurd h0 e1
 | deep h1 hd S' K' d' r C =>
  have h0:o.iA (ms X).length≠0:=fun e=>by
   obtain⟨nd,hd1,hd2⟩:=T.ok.doc
   rw [e,hz.1,hd1] at hn
   cases hn
   exact h1 hd2
  rcases hm with ⟨e1,_⟩ | ⟨_,e1,e2⟩
  ·exact absurd e1 h0
  ·rw [if_pos hd,← hMl] at e2
   obtain⟨k1,k2⟩:=do_deep (B:=B) (w0:=w0) (l:=l) (g:=g) (R:=R) (Q:=Q) T hE hk ha h0 hd C (by omega) e2
   obtain⟨_,_,n',_,hn',_⟩:=C.new (σ (o.iA (ms X).length)) (by obtain⟨t,ht⟩:=wlk_head K (128 - d (σ (o.iA (ms X).length))) (σ (o.iA (ms X).length));rw [ht];simp)
   have hS2:S'.slots.length≤S.slots.length+(wlk K (128 - d (σ (o.iA (ms X).length))) (σ (o.iA (ms X).length))).length:=by
    have h3:=nxN_len (wlk K (128 - d (σ (o.iA (ms X).length))) (σ (o.iA (ms X).length))).length S.fl
    rw [← C.fl] at h3
    exact h3.2.1
   have hwl:=wlk_len T.ok.lk (128 - d (σ (o.iA (ms X).length))) (σ (o.iA (ms X).length)) (by rw [hn];rfl)
   have hXl:X'.length≤3600:=by
    have h4:(ms X').length=(ms X).length+(wlk (kM (ms X)) (128 - d (σ (o.iA (ms X).length))) (o.iA (ms X).length)).length:=by rw [e2,List.length_append,List.length_map]
    have h5:=T.tw.wlk_len T.ok.lk (128 - d (σ (o.iA (ms X).length))) ha
    rw [ms_len] at h4
    omega
   refine .inr ⟨rfl,e1,K',d',_,n',(C.hd _).symm,C.lk,hn',k1,?_,k2⟩
   have h4:(ms X').length=(ms X).length+(wlk (kM (ms X)) (128 - d (σ (o.iA (ms X).length))) (o.iA (ms X).length)).length:=by rw [e2,List.length_append,List.length_map]
   have h5:=T.tw.wlk_len T.ok.lk (128 - d (σ (o.iA (ms X).length))) ha
   rw [ms_len] at h4
   omega
 | flat h1 hd S' K' d' r C =>
  have h0:o.iA (ms X).length≠0:=fun e=>by
   obtain⟨nd,hd1,hd2⟩:=T.ok.doc
   rw [e,hz.1,hd1] at hn
   cases hn
   exact h1 hd2
  rcases hm with ⟨e1,_⟩ | ⟨_,e1,e2⟩
  ·exact absurd e1 h0
  ·rw [if_neg (by rw [hd];decide)] at e2
   obtain⟨k1,k2⟩:=do_flat (B:=B) (w0:=w0) (l:=l) (g:=g) (R:=R) (Q:=Q) T hE hk ha h0 hd C (by omega) e2
   obtain⟨_,_,n',_,hn',_⟩:=C.new (σ (o.iA (ms X).length)) (by simp)
   refine .inr ⟨rfl,e1,K',d',_,n',(C.hd _).symm,C.lk,hn',k1,?_,k2⟩
   have h4:(ms X').length=(ms X).length+1:=by rw [e2,List.length_append,List.length_singleton]
   rw [ms_len] at h4
   omega
end
def putK (x:Value)(a:Act):Act:={ tmps:=(a.tmps.setIfInBounds 76 x).setIfInBounds 11 x,defers:=[] }
theorem copy_dead {B:Nat}{w0 w:World}{l:List Ob}{g R Q hvc gh:Nat}{sv fv nv:Value}{S:Tr}{X:List MX}{Hs:List Int}(h:All B w0 (twL g R Q (.slice (some ⟨gh,0,none⟩) X.length hvc) Hs S sv fv nv X ++ l) w)(hHl:Hs.length=X.length)(i:Nat)(hi:i < X.length)(hXl:X.length≤1000000)(hhd:Hs[i]? = some (-1))(hix:S.ix (-1)=none)(hm:lv (ms X) i=none)(deep:Bool) :
  Calls Tryz.prog 48 #[.pointer (some ⟨g,0,none⟩),.int .i64 (i:Int),.bool deep] w fun e w'=>e=.returned (.bool true)∧All B w0 (twL g R Q (.slice (some ⟨gh,0,none⟩) X.length hvc) Hs S sv fv nv X ++ l) w':=by
 have hA1:=(h.newBk [.pointer (some ⟨g,0,none⟩)] 25).perm (List.perm_middle (l₁:=twL g R Q (.slice (some ⟨gh,0,none⟩) X.length hvc) Hs S sv fv nv X) (l₂:=l)).symm
 have hho:HOk (-1):=⟨by omega,by omega⟩
 have hil:(i:Int) < (X.length:Int):=by omega
 clear h
 refine(callsIn_wide (n:=8)).1 ?_
 refine callsIn_of_wp_marks Tryz.func48 rfl trivial ?_ rfl
 simp only [Tryz.ntmps48,List.size_toArray,List.length_cons,List.length_nil,Nat.reduceAdd,Nat.reduceSub,Array.replicate_succ,Array.replicate_zero,List.push_toArray,List.append_toArray,List.nil_append,List.cons_append]
 refine wpIn_wide.2 ?_
 go_upto_region 1 with fail
 generalize w.alloc (.cells #[.pointer (some ⟨g,0,none⟩)] 25)=w1 at *
 have HA1:=Lib.hid hA1
 obtain⟨gh',e2,hghl,hgh⟩:=tw_hcell hA1 hHl i (-1) hhd
 cases e2
 have hne:=stb_ne w1
 have y0:=fun(x:InS (StB w1))=>(tw_bk (HA1.out.still x.h)).cell 0
 have y2:=fun(x:InS (StB w1))=>(tw_bk (HA1.out.still x.h)).cell 2
 have y3:=fun(x:InS (StB w1))=>cell_keep x.h hgh
 have y4:=fun(x:InS (StB w1))=>(cq_bx (HA1.out.still x.h)).cell 0
 simp only [zzD,zzE] at y0 y2 y4
 clear hA1
 refine reg_f (fun _ _=>True) (fun _ v=>v=.tuple #[.int .i64 0,.int .i64 6]) 18 (by kernel_rfl) (by kernel_rfl) (fun _ _ _ _ _=>trivial) trivial ?_
 simp only [zzF,zzG,zzH,zzI]
 repeat (first
  | (refine RV.m_held (by rfl) (by rfl) (fun K hK=>?_);go_big_quiet_step (fail);refine wpQuiet_nil ?_;refine hK.out _ ?_;clear hK K)
  | (refine RV.m_skip (by rfl) ?_;simp only [Act.put,zzA,zzB,zzC]))
 refine RV.m_call (by rfl) (by rfl) (fun w=>by go_simp;exact⟨rfl,rfl⟩) (⟨_,rfl⟩) (fun X wx hx=>?_) (fun v hv=>?_)
 ·refine(tcopy_none (tw_tr (HA1.out.still hx.1)) (-1) hho hix deep).mono ?_
  rintro e wy ⟨rfl,hb⟩
  exact⟨_,rfl,rfl,bthen hx.1 hb,trivial⟩
 obtain rfl:v=.tuple #[.int .i64 0,.int .i64 6]:=hv
 simp only [Act.put,zzA,zzB,zzC]
 repeat (first
  | (refine RV.m_held (by rfl) (by rfl) (fun K hK=>?_);go_big_quiet_step (fail);refine wpQuiet_nil ?_;refine hK.out _ ?_;clear hK K)
  | (refine RV.m_skip (by rfl) ?_;simp only [Act.put,zzA,zzB,zzC]))
 refine RV.m_nil ?_
 intro w5 hb5 _
 have HA5:=Lib.hid (HA1.out.still hb5)
 have c0:=(cq_bx HA5.out).cell 0
 have g1:=(tw_bk HA5.out).cell 1
 simp only [zzD,zzE] at c0 g1
 have HHas:=Lib.hid (hasT HA5.out i (by omega) ⟨by omega,by omega⟩)
 rw [hm] at HHas
 clear y0 y2 y3 y4 hne hb5 hgh hghl
 go_wp2_with fail
 refine HHas.out.mono ?_
 rintro e w9 ⟨rfl,hw⟩
 rw [hw]
 clear hw
 go_wp2_with fail
 refine⟨.bool true,?_,rfl,HA5.out.sub ((List.sublist_cons_self _ _).append_left _)⟩
 simp [results,Tryz.f48,go_sem]
end Go.Proofs.YtfelmdkeaacfeaaGreatDoor.W
end
section
namespace Go.Proofs.YtfelmdkeaacfeaaGreatDoor.W
open Go.RowKit
attribute [local go_sem] Oper.semAt_some
theorem wlk_nd {ex:Prop}{E:Nat→Prop}{c:Nat}{S:Tr}{K:Nat→List Nat}{d:Nat→Nat}{M:List MN}{σ : Nat→Nat}(W:Tw ex E c S K M σ)(L:Lk S K d)(f i:Nat)(m:MN)(hi:lv M i=some m):(wlk (kM M) f i).Nodup:=by
 obtain⟨n,hn,_⟩:=W.node i m hi
 have h:=wlk_nodup L f (σ i) (by rw [hn];rfl)
 rw [W.wlk f i m hi] at h
 exact(List.pairwise_map.1 h).imp (fun h e=>h (by rw [e]))
theorem copy_live {ex:Prop}{E:Nat→Prop}{c x:Nat}{B:Nat}{w0 w:World}{l:List Ob}{g R Q gh hvc:Nat}{sv fv nv:Value}{S:Tr}{K:Nat→List Nat}{d:Nat→Nat}{X:List MX}{σ : Nat→Nat}{Hs:List Int}
  (h:All B w0 (twL g R Q (.slice (some ⟨gh,0,none⟩) X.length hvc) Hs S sv fv nv X ++ l) w)(T:TwS ex E c x S K d (ms X) σ)(hE:∀y,E y→(S.at y).isSome=true)(hX:X.length≤600)(hx:x≤2000)(hc6:c≤200)(o:OpV)(ho:o.Ok)(hk:o.k % 10=8)(hHs:Hs=hsOf S σ (ms X))(hHl:Hs.length=X.length)
  {m:MN}{n:Nd}(hm:lv (ms X) (o.iA X.length)=some m)(hn:S.at (σ (o.iA X.length))=some n)(hhd:Hs[o.iA X.length]? = some (S.hd (σ (o.iA X.length))))(hal:o.iA X.length < X.length) :
  Calls Tryz.prog 48 #[.pointer (some ⟨g,0,none⟩),.int .i64 (o.iA X.length:Int),.bool (decide (0 < o.n))] w fun e w'=>e=.returned (.bool true)∧DoR ex E c x B w0 l g R Q S K d (ms X) σ o (.returned (.tuple #[.slice none 0 0,.bool true])) w':=by
 have hD:=doI_of (hHs ▸ h) T hX hx ho
 have hA1:=(h.newBk [.pointer (some ⟨g,0,none⟩)] 25).perm (List.perm_middle (l₁:=twL g R Q (.slice (some ⟨gh,0,none⟩) X.length hvc) Hs S sv fv nv X) (l₂:=l)).symm
 have HT:=Lib.hid T
 have HHs:=Lib.hid hHs
 have HHl:=Lib.hid hHl
 have HE:=Lib.hid hE
 have HHd:=Lib.hid hhd
 have HO:=Lib.hid ho
 have hHp:0 < X.length:=hD.pos
 have hai:(o.iA X.length:Int) < (X.length:Int):=by omega
 clear h T hHs hHl hE hhd ho
 generalize hdp:decide (0 < o.n)=deep
 refine(callsIn_wide (n:=8)).1 ?_
 refine callsIn_of_wp_marks Tryz.func48 rfl trivial ?_ rfl
 simp only [Tryz.ntmps48,List.size_toArray,List.length_cons,List.length_nil,Nat.reduceAdd,Nat.reduceSub,Array.replicate_succ,Array.replicate_zero,List.push_toArray,List.append_toArray,List.nil_append,List.cons_append]
 refine wpIn_wide.2 ?_
 go_upto_region 1 with fail
 generalize w.alloc (.cells #[.pointer (some ⟨g,0,none⟩)] 25)=w1 at *
 have HA1:=Lib.hid hA1
 obtain⟨gh',e2,hghl,hgh⟩:=tw_hcell hA1 HHl.out _ _ HHd.out
 cases e2
 clear hA1
 haveI hne:Nonempty (InS (CqS g R Q gh (o.iA X.length) w.heap.size (.slice (some ⟨gh,0,none⟩) X.length hvc) (S.hd (σ (o.iA X.length))))):=⟨⟨w1,cq_0 HA1.out hgh w1 (Below.refl _ _)⟩⟩
 have y0:=fun(x:InS (CqS g R Q gh (o.iA X.length) w.heap.size (.slice (some ⟨gh,0,none⟩) X.length hvc) (S.hd (σ (o.iA X.length)))))=>x.h.bk.cell 0
 have y2:=fun(x:InS (CqS g R Q gh (o.iA X.length) w.heap.size (.slice (some ⟨gh,0,none⟩) X.length hvc) (S.hd (σ (o.iA X.length)))))=>x.h.bk.cell 2
 have y3:=fun(x:InS (CqS g R Q gh (o.iA X.length) w.heap.size (.slice (some ⟨gh,0,none⟩) X.length hvc) (S.hd (σ (o.iA X.length)))))=>x.h.hc
 have y4:=fun(x:InS (CqS g R Q gh (o.iA X.length) w.heap.size (.slice (some ⟨gh,0,none⟩) X.length hvc) (S.hd (σ (o.iA X.length)))))=>x.h.bx.cell 0
 simp only [zzD,zzE] at y0 y2 y4
 refine reg_g (CqS g R Q gh (o.iA X.length) w.heap.size (.slice (some ⟨gh,0,none⟩) X.length hvc) (S.hd (σ (o.iA X.length)))) (TF w1 (CRes B w0 l g R Q w.heap.size (.slice (some ⟨gh,0,none⟩) X.length hvc) Hs nv X S K d (σ (o.iA X.length)) n deep)) (fun _ v=>∃h er,v=.tuple #[.int .i64 h,.int .i64 er]) 18 (by kernel_rfl) (by kernel_rfl) (tf_S (cq_0 HA1.out hgh) (cq_1 HHl.out HHd.out)) (tf_below cres_below) (Below.refl _ _) ?_
 simp only [zzF,zzG,zzH,zzI]
 repeat (first
  | (refine RV.m_held (by rfl) (by rfl) (fun K hK=>?_);go_big_quiet_step (fail);refine wpQuiet_nil ?_;refine hK.out _ ?_;clear hK K)
  | (refine RV.m_skip (by rfl) ?_;simp only [Act.put,zzA,zzB,zzC]))
 refine RV.m_call (by rfl) (by rfl) (fun w=>by go_simp;exact⟨rfl,rfl⟩) (⟨_,0,0,rfl⟩) (fun X wx hx=>?_) (fun v hv=>?_)
 ·have hx2:Below w1.heap.size w1 wx:=hx
  have hA3:=HA1.out.still hx2
  have hT2:TAt 0 R S sv fv wx:=tw_tr hA3
  have hcl:=tcpy_any hT2 HT.out.ok _ n hn hD.sl deep
  refine hcl.mono ?_
  rintro e wy ⟨S',sv',fv',h',er,hct,rfl,hTo⟩
  exact⟨_,rfl,⟨h',er,rfl⟩,S',sv',fv',h',er,rfl,hct,hTo.all hA3⟩
 obtain⟨h',er,rfl⟩:=hv
 simp only [Act.put,zzA,zzB,zzC]
 repeat (first
  | (refine RV.m_held (by rfl) (by rfl) (fun K hK=>?_);go_big_quiet_step (fail);refine wpQuiet_nil ?_;refine hK.out _ ?_;clear hK K)
  | (refine RV.m_skip (by rfl) ?_;simp only [Act.put,zzA,zzB,zzC]))
 refine RV.m_nil ?_
 intro w5 hF
 obtain⟨S',sv',fv',h'',er',he,hres,hA5⟩:=hF
 simp only [Value.tuple.injEq,List.toArray_inj,Array.mk.injEq,List.cons.injEq,Value.int.injEq,and_true,true_and] at he
 obtain⟨rfl,rfl⟩:=he
 have HA5:=Lib.hid hA5
 have HRes:=Lib.hid hres
 clear y0 y2 y3 y4 hne hA5 hres hgh hghl
 obtain⟨gm,capm,rfl⟩:=(tw_md HA5.out).W.shape hHp
 have c0:=(cq_bx HA5.out).cell 0
 have g0:=(tw_bk HA5.out).cell 0
 have g1:=(tw_bk HA5.out).cell 1
 have q0:=(tw_md HA5.out).W.ptr
 simp only [zzD,zzE] at c0 g0 g1
 have HHas:=Lib.hid (hasT HA5.out (o.iA X.length) (by omega) ⟨by omega,by omega⟩)
 rw [hm] at HHas
 go_wp2_with fail
 refine HHas.out.mono ?_
 rintro e w9 ⟨rfl,hw⟩
 rw [hw]
 clear hw
 go_wp2_with fail
 refine(mCopy_any deep (HT.out.tw.mw HT.out.ok.lk) (fun f i m h=>wlk_nd HT.out.tw HT.out.ok.lk f i m h) (fun f i m h=>by have:=HT.out.tw.wlk_len HT.out.ok.lk f h;have:=hD.sl;omega) (fun i m h=>by have:=HT.out.tw.ma i m h;omega) hm rfl (tw_md HA5.out) (by omega)).mono ?_
 rintro e w7 ⟨X',g',cap',en,rfl,hmc,hM7⟩
 have hA7:=hM7.tw0 HA5.out
 have HA7:=Lib.hid hA7
 have hboth:=cpy_both (B:=B) (w0:=w0) (l:=l) (g:=g) (R:=R) (Q:=Q) HT.out HE.out hX hx hk (by rw [ms_len];exact hm) (by rw [ms_len];exact hn) (by rw [ms_len,hdp];exact HRes.out) (by rw [ms_len,hdp];exact hmc)
 clear hmc hM7 hA7 c0 g0 g1 q0
 rw [← HHs.out] at hboth
 rcases hboth with ⟨rfl,rfl,rfl,hend⟩ | ⟨rfl,rfl,K',d',q,nq,rfl,hLk,hq,hXl,hwl,hend⟩
 ·have HEnd:=Lib.hid hend
  clear hend
  go_wp2_with fail
  refine⟨.bool true,?_,rfl,HEnd.out _ _ _ _ _ (HA7.out.sub ((List.sublist_cons_self _ _).append_left _))⟩
  simp [results,Tryz.f48,go_sem]
 ·have HEnd:=Lib.hid hend
  have HLk:=Lib.hid hLk
  have HQ:=Lib.hid hq
  have HXl:=Lib.hid hXl
  clear hend hLk hq hXl
  have c0:=(cq_bx HA7.out).cell 0
  have g0:=(tw_bk HA7.out).cell 0
  simp only [zzD,zzE] at c0 g0
  go_wp2_with fail
  refine(walk_any R (S'.hd q) w7).mono ?_
  rintro e w8 ⟨rfl,hw8⟩
  obtain⟨gs,caps,rfl⟩:=slots_some (tw_tr HA7.out) (by have:=at_lt HQ.out;omega)
  have hA8:All B w0 (twL g R Q (.slice (some ⟨gh,0,none⟩) X.length hvc) Hs S' (.slice (some ⟨gs,0,none⟩) S'.slots.length caps) fv' (.slice (some ⟨g',0,none⟩) X'.length cap') X' ++ bxO w.heap.size g :: l) w8:=by rw [hw8];exact(HA7.out.alloc _).alloc _
  have hBs:Blk w8 w7.heap.size [.pointer (some ⟨R,0,none⟩)] 29:=by rw [hw8];exact(Blk.new w7 [.pointer (some ⟨R,0,none⟩)] 29).alloc _
  have hBh:Blk w8 (w7.heap.size+1) [.int .i64 (S'.hd q)] 3:=by
   have k2:=Blk.new (w7.alloc (.cells #[.pointer (some ⟨R,0,none⟩)] 29)) [.int .i64 (S'.hd q)] 3
   rw [show(w7.alloc (.cells #[.pointer (some ⟨R,0,none⟩)] 29)).heap.size=w7.heap.size+1 by simp] at k2
   rw [hw8];exact k2
  have HA8:=Lib.hid hA8
  have HSq:=Lib.hid (fun m=>walk1_at (n:=m) (b:=g) (fun W k=>tw_wkj HA8.out W k) HLk.out nq HQ.out (tw_wkj0 HA8.out) hBs hBh)
  clear hw8 hA8 hBs hBh c0 g0
  go_wp2_with fail
  refine(wpIn_wide (n:=8)).1 ?_
  refine rangeFunc_put (fun x=>putK (.int .i64 (S'.hd x))) (by omega) (gf:=73) (lb:=#[.pointer (some ⟨w7.heap.size,0,none⟩),.pointer (some ⟨w7.heap.size+1,0,none⟩)]) rfl (enters_of Tryz.func73 (by kernel_rfl) rfl) (HSq.out 7) KpT.trans (fun W l o o' hl h hc _=>KpT.put2 l o o' h hc (by have:=(tw_bk HA8.out).lt;omega)) (fun _=>rfl)
   (fun pre W=>∃v,All B w0 (twL g R Q v (Hs ++ pre.map S'.hd) S' (.slice (some ⟨gs,0,none⟩) S'.slots.length caps) fv' (.slice (some ⟨g',0,none⟩) X'.length cap') X' ++ bxO w.heap.size g :: l) W) (fun c pre W=>False) ?own (fun _ _ _ _ _ hs _ _=>hs) ⟨_,by simpa using HA8.out⟩ ?assign ?body ?done ?stop
  case own =>
   rintro pre W W' row ⟨v,hI⟩ hg hr
   exact⟨v,cp_own HA8.out hI hg hr⟩
  case assign =>
   intro l x W K hK
   gi_wp2
   exact hK
  case stop =>
   intro D c pre W hD hs hx
   cases hx
  case body =>
   rintro l' pre x W ⟨v,hI⟩ hlt
   obtain⟨Hq,hHq⟩:∃Hq,Hq=Hs ++ pre.map S'.hd:=⟨_,rfl⟩
   have hpl:Hq.length≤4000:=by
    rw [hHq,List.length_append,HHl.out,List.length_map];omega
   rw [← hHq] at hI
   have HPs:=Lib.hid (show Hs ++ (pre ++ [x]).map S'.hd=Hq ++ [S'.hd x] by rw [hHq];simp)
   clear hHq
   obtain⟨va,vc,rfl⟩:=own_shape (tw_hs hI)
   have HI:=Lib.hid hI
   haveI hne:Nonempty (InS (RdS g R Q w.heap.size (.slice va Hq.length vc))):=⟨⟨W,tw_bk hI,cq_bx hI⟩⟩
   have y2:=fun(x:InS (RdS g R Q w.heap.size (.slice va Hq.length vc)))=>x.h.bk.cell 2
   have y3:=fun(x:InS (RdS g R Q w.heap.size (.slice va Hq.length vc)))=>x.h.bx.cell 0
   simp only [zzD,zzE] at y2 y3
   clear hI hlt HSq
   simp only [putK,zzA,zzB,zzC]
   refine wpIn_block ?_
   refine RZ.reg_mX ⟨RdS g R Q w.heap.size (.slice va Hq.length vc),RdC W (.slice va Hq.length vc) Hq (S'.hd x),RdV Hq.length,fun _ _=>undef,fun _=>[],fun _=>0⟩ 10 (fun _=>trivial) rfl (fun f args w R h=>RZ.calls_round f args w R h) (by kernel_rfl) (by kernel_rfl) (by kernel_rfl) (fun k Y w' h=>rd_S HI.out k Y w' h) (fun k Y w' cs ty h=>RdC.alloc k Y w' cs ty h) (fun k Y Z w' hp h=>RdC.perm k Y Z w' hp h) ((Below.refl _ _).drew) ?_
   simp only [zzF,zzG,zzH,zzI]
   repeat (first
    | (refine RZ.m_held (by rfl) (by rfl) (fun K hK=>?_);go_big_quiet_step (fail);refine wpQuiet_nil ?_;refine hK.out _ ?_;clear hK K)
    | (refine RZ.m_skip (by rfl) ?_;simp only [Act.put,zzA,zzB,zzC]))
   refine RZ.m_app (by rfl) (by rfl) ⟨_,0,rfl⟩ ?_ ?_
   ·intro Y wx hx
    refine⟨.slice (some ⟨wx.heap.size,0,none⟩) 1 1,wx.alloc (.cells #[.int .i64 (S'.hd x)] 3),by go_simp,⟨_,rfl⟩,bthen hx ((Below.refl _ _).alloc (Nat.le_refl _) _),⟨_,rfl⟩,?_⟩
    exact own_at (n:=1) (size:=1) (Blk.new wx [.int .i64 (S'.hd x)] 3) rfl (by omega)
   rintro v ⟨gk,rfl⟩
   simp only [Act.put,zzA,zzB,zzC]
   repeat (first
    | (refine RZ.m_held (by rfl) (by rfl) (fun K hK=>?_);go_big_quiet_step (fail);refine wpQuiet_nil ?_;refine hK.out _ ?_;clear hK K)
    | (refine RZ.m_skip (by rfl) ?_;simp only [Act.put,zzA,zzB,zzC]))
   refine RZ.m_app (by rfl) (by rfl) ⟨_,none,0,rfl⟩ ?_ ?_
   ·intro Y wx hx
    obtain⟨hbx,_,hown⟩:=hx
    obtain⟨v',w',hr,ho,hg,hb⟩:=run_append_B (ty:=31) etI (B:=0) (own_low (own_belowM (tw_hs HI.out) hbx) (Nat.zero_le _)) (Nat.zero_le _) hown (by intro u hu;simp at hu;subst hu;rfl) (by omega) (by omega)
    obtain⟨na,nc2,rfl⟩:=own_shapeB ho
    refine⟨_,w',exec_append rfl rfl rfl hr,⟨na,nc2,rfl⟩,?_,ho,?_⟩
    ·exact(Chg.of_below hbx).trans ((Chg.refl (fun b=>(Value.slice va Hq.length vc).ownBlock=some b) wx).grown hg (fun k e _=>e)) (fun _ _ e=>e)
    ·rcases hb with e | e
     ·exact .inl e
     ·exact .inr (fun b hb'=>by rw [e] at hb';cases hb';exact hbx.size)
   rintro v ⟨na,nc2,rfl⟩
   simp only [Act.put,zzA,zzB,zzC]
   repeat (first
    | (refine RZ.m_held (by rfl) (by rfl) (fun K hK=>?_);go_big_quiet_step (fail);refine wpQuiet_nil ?_;refine hK.out _ ?_;clear hK K)
    | (refine RZ.m_skip (by rfl) ?_;simp only [Act.put,zzA,zzB,zzC]))
   refine RZ.m_nil ?_
   intro w9 hC9
   have hR9:=rd_S HI.out _ _ w9 hC9
   obtain⟨hch,hown,hvb⟩:=hC9
   obtain⟨hp1,hp2,hp3⟩:=rd_put HI.out hch hown hvb
   have HP1:=Lib.hid hp1
   have HP2:=Lib.hid hp2
   have HP3:=Lib.hid hp3
   have z2:=hR9.bk.cell 2
   simp only [zzD,zzE] at z2
   have zl:=hR9.bk.lt
   have zf:=hR9.bk.free
   clear hp1 hp2 hp3 hch hown hvb hR9 y2 y3 hne
   gi_wp2
   exact⟨HP3.out,HP2.out,_,by rw [HPs.out];exact HP1.out⟩
  case done =>
   rintro D ys W hD rfl ⟨v,hI⟩ hK
   have hlen:(Hs ++ (wlk K' (128 - d' q) q).map S'.hd).length=X'.length:=by rw [List.length_append,HHl.out,List.length_map,HXl.out]
   obtain⟨va,vc,hv⟩:=own_shape (tw_hs hI)
   rw [hlen] at hv
   subst hv
   obtain⟨tl,htl⟩:=wlk_head K' (128 - d' q) q
   obtain⟨ghx,e2,_,hcell⟩:=tw_hcell hI hlen X.length (S'.hd q) (by rw [htl,List.getElem?_append_right (by rw [HHl.out];exact Nat.le_refl _),HHl.out,Nat.sub_self];rfl)
   cases e2
   have hxx:(X.length:Int) < (X'.length:Int):=by have:=HXl.out;rw [htl] at this;simp at this;omega
   have HI:=Lib.hid hI
   have HKD:=Lib.hid hK
   have hDl:D < W.heap.size:=hlt hK
   clear hI hlen htl HSq hK
   go_upto_region 11 with fail
   have hne:=stb_ne W
   have y0:=fun(x:InS (StB W))=>(cq_bx (HI.out.still x.h)).cell 0
   have y1:=fun(x:InS (StB W))=>(tw_bk (HI.out.still x.h)).cell 1
   have y2:=fun(x:InS (StB W))=>(tw_bk (HI.out.still x.h)).cell 2
   have y3:=fun(x:InS (StB W))=>(tw_md (HI.out.still x.h)).W.ptr
   have y4:=fun(x:InS (StB W))=>cell_keep x.h hcell
   simp only [zzD,zzE] at y0 y1 y2
   refine reg_f (fun _ _=>True) (fun _ _=>True) 26 (by kernel_rfl) (by kernel_rfl) (fun _ _ _ _ _=>trivial) trivial ?_
   simp only [zzF,zzG,zzH,zzI]
   repeat (first
    | (refine RV.m_held (by rfl) (by rfl) (fun K hK=>?_);go_big_quiet_step (fail);refine wpQuiet_nil ?_;refine hK.out _ ?_;clear hK K)
    | (refine RV.m_skip (by rfl) ?_;simp only [Act.put,zzA,zzB,zzC]))
   refine RV.m_nil ?_
   intro w11 hb11 _
   have hb11:Below W.heap.size W w11:=hb11
   have HI11:=Lib.hid (HI.out.still hb11)
   have HK11:=Lib.hid ((hb11.block D hDl).trans HKD.out)
   clear y0 y1 y2 y3 y4 hne hb11 hcell
   go_wp2_with fail
   refine one_mark HK11.out ?_
   refine⟨.bool true,?_,rfl,HEnd.out _ _ _ _ _ ((cp_own HA8.out HI11.out (grownBy_putObj' w11 D _) (fun k e=>by cases e;exact⟨hD,_,HK11.out,rfl⟩)).sub ((List.sublist_cons_self _ _).append_left _))⟩
   simp [results,Tryz.f48,go_sem]
end Go.Proofs.YtfelmdkeaacfeaaGreatDoor.W
end
section
namespace Go.Proofs.YtfelmdkeaacfeaaGreatDoor.W
open Go.RowKit
theorem do_cpy {ex:Prop}{E:Nat→Prop}{c x:Nat}{B:Nat}{w0 w:World}{l:List Ob}{g R Q:Nat}{hv sv fv nv:Value}{S:Tr}{K:Nat→List Nat}{d:Nat→Nat}{X:List MX}{σ : Nat→Nat}
  (hLd:Laid w)(h:All B w0 (twL g R Q hv (hsOf S σ (ms X)) S sv fv nv X ++ l) w)(T:TwS ex E c x S K d (ms X) σ)(hX:X.length≤600)(hx:x≤2000)(hce:ex→c≤60)(hc6:c≤200)(o:OpV)(ho:o.Ok)(hk:o.k % 10=8)
  (hE:∀y,E y→(S.at y).isSome=true) :
  Calls Tryz.prog 13 #[.pointer (some ⟨g,0,none⟩),.agg (opC o).toArray] w (DoR ex E c x B w0 l g R Q S K d (ms X) σ o):=by
 have hD:=doI_of h T hX hx ho
 obtain⟨Hs,hHs⟩:∃Hs,Hs=hsOf S σ (ms X):=⟨_,rfl⟩
 rw [← hHs] at h
 have hHl:Hs.length=X.length:=by rw [hHs,hsOf_len,ms_len]
 have hHp:0 < X.length:=hD.pos
 obtain⟨hva,hvc,hvv⟩:=own_shape (tw_hs h)
 rw [hHl] at hvv
 subst hvv
 have HAl:=Lib.hid h
 have HT:=Lib.hid T
 have HO:=Lib.hid ho
 have HHs:=Lib.hid hHs
 have HHl:=Lib.hid hHl
 have HLd:=Lib.hid hLd
 have hbk:=tw_bk h
 have g1:=hbk.cell 1
 have g2:=hbk.cell 2
 simp only [zzD,zzE] at g1 g2
 have hgl:=hbk.lt
 have hgz:=hbk.free
 have hb1:=(Below.refl w.heap.size w).alloc (Nat.le_refl _) (.cells (opC o).toArray 39)
 have k1:=Blk.new w (opC o) 39
 have hra:(o.a:Int) % (X.length:Int)=((o.iA X.length:Nat):Int):=rfl
 have hrb:(o.b:Int) % (X.length:Int)=((o.iB X.length:Nat):Int):=rfl
 have hrc:=wrap_iC o (n:=X.length) (by omega)
 have hrk:(o.k:Int) % 10=8:=by omega
 have hal:o.iA X.length < X.length:=Nat.mod_lt _ hHp
 have hbl:o.iB X.length < X.length:=Nat.mod_lt _ hHp
 have hn0:¬(X.length:Int)=0:=by omega
 have hn1:¬(X.length:Int)+1=0:=by omega
 have hoa:=ho.a
 have hwn:wrap64 o.n=o.n:=IntWalk.wrap64_in _ (by have:=ho.n;omega)
 have hob:=ho.b
 have hoc:=ho.c
 have hok:=ho.k
 have HHas:=Lib.hid (fun wx (hb:Below w.heap.size w wx) i (hi:i≤1000000)=>hasT (h.still hb) i hi (by have:=hD.pos;omega))
 clear h T ho hHs hbk hLd
 simp only [opC] at k1 hb1 ⊢
 go_enter Tryz.func13,Tryz.ntmps13
 go_upto_region 2 with fail
 generalize w.alloc (.cells #[.int .u8 o.k,.int .u8 o.a,.int .u8 o.b,.int .u8 o.c,.string ⟨o.s.toArray⟩,.string ⟨o.t.toArray⟩,.int .i8 o.n,.int .i8 o.kk] 39)=w1 at *
 have hne:=stb_ne w1
 have x1:=fun(x:InS (StB w1))=>(k1.below x.h).cell 1
 have x2:=fun(x:InS (StB w1))=>(k1.below x.h).cell 2
 have x3:=fun(x:InS (StB w1))=>(k1.below x.h).cell 3
 simp only [zzD,zzE] at x1 x2 x3
 refine reg_f (fun _ _=>True) (fun _ _=>True) 20 (by kernel_rfl) (by kernel_rfl) (fun _ _ _ _ _=>trivial) trivial ?_
 simp only [zzF,zzG,zzH,zzI]
 repeat (first
  | (refine RV.m_held (by rfl) (by rfl) (fun K hK=>?_);go_big_quiet_step (fail);refine wpQuiet_nil ?_;refine hK.out _ ?_;clear hK K)
  | (refine RV.m_skip (by rfl) ?_;simp only [Act.put,zzA,zzB,zzC]))
 refine RV.m_nil ?_
 intro w2 hb2' _
 have HB2:=Lib.hid (bthen hb1 hb2')
 have HK2:=Lib.hid (k1.below hb2')
 clear x1 x2 x3 hne hb1 hb2' k1 g1 g2 hHl
 rw [hra,hrb,hrc]
 have HA2:=Lib.hid (HAl.out.still HB2.out)
 have c0:=HK2.out.cell 0
 have c6:=HK2.out.cell 6
 have g1:=(tw_bk HA2.out).cell 1
 have g2:=(tw_bk HA2.out).cell 2
 simp only [zzD,zzE] at c0 c6 g1 g2
 have hgl2:=(tw_bk HA2.out).lt
 have hgz2:=(tw_bk HA2.out).free
 have hxl2:=HK2.out.lt
 clear hgl hgz
 go_wp2_with fail
 refine(HHas.out w2 HB2.out _ (by omega)).mono ?_
 rintro e w3 ⟨rfl,hw⟩
 rw [hw]
 clear hw
 obtain⟨hd,hhd,hho,hcase⟩:=hs_ok HT.out (i:=o.iA X.length) (by rw [ms_len];exact hal)
 rw [← HHs.out] at hhd
 obtain⟨gh,rfl,hghl,hgh⟩:=tw_hcell HA2.out HHl.out _ _ hhd
 have hai:(o.iA X.length:Int) < (X.length:Int):=by omega
 rcases hcase with ⟨m,n,hm,hn,rfl⟩ | ⟨hm,rfl,hix⟩
 case inr =>
  rw [hm]
  go_wp2_with fail
  refine(copy_dead HA2.out HHl.out _ hal (by omega) hhd hix hm _).mono ?_
  rintro e w5 ⟨rfl,hA5⟩
  have HA5:=Lib.hid hA5
  clear hA5
  go_wp2_with fail
  go_ret2
  exact do_off HT.out HA5.out HHs.out (by omega) (.inl (by rw [ms_len];exact hm)) (by omega)
 case inl =>
  rw [hm]
  go_wp2_with fail
  refine(copy_live HA2.out HT.out hE hX hx hc6 o HO.out hk HHs.out HHl.out hm hn hhd hal).mono ?_
  rintro e w5 ⟨rfl,hR⟩
  have HR:=Lib.hid hR
  clear hR
  go_wp2_with fail
  go_ret2
  exact HR.out
end Go.Proofs.YtfelmdkeaacfeaaGreatDoor.W
end
