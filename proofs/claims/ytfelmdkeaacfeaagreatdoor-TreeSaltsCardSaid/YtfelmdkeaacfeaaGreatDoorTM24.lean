/- Texts joined: TwS RepB. -/
import Derived.Test.YtfelmdkeaacfeaaGreatDoorTM23
import Derived.Test.YtfelmdkeaacfeaaGreatDoorTM1
import Derived.Test.YtfelmdkeaacfeaaGreatDoorTM12
import Derived.Test.YtfelmdkeaacfeaaGreatDoorTM5
set_option maxRecDepth 100000
set_option maxHeartbeats 40000000
set_option linter.unusedVariables false
set_option linter.unusedSimpArgs false
section
namespace Go.Proofs.YtfelmdkeaacfeaaGreatDoor.W
open Go.RowKit
theorem mem_set_or {α : Type}{l:List α}{k:Nat}{x a:α}(h:a∈l.set k x):a=x∨a∈l:=by
 rcases List.mem_or_eq_of_mem_set h with h | h
 ·exact .inr h
 ·exact .inl h
theorem nmOf_at {l:List Atr}{x:List UInt8}{k:Nat}{y:Atr}(h:nmOf l x=(k:Int))(hy:l[k]? = some y):y.1=x:=by
 unfold nmOf at h
 cases e:l.findIdx? (fun y=>y.1 == x) with
 | none=>rw [e] at h;simp at h
 | some i =>
  rw [e] at h
  have hik:(i:Int)=(k:Int):=by simpa using h
  have hik:i=k:=by omega
  subst hik
  obtain⟨hi,hp,_⟩:=List.findIdx?_eq_some_iff_getElem.1 e
  rw [List.getElem?_eq_getElem hi] at hy
  cases hy
  simpa using hp
theorem nmOf_neg {l:List Atr}{x:List UInt8}(h:nmOf l x=-1):x∉l.map (·.1):=by
 unfold nmOf at h
 cases e:l.findIdx? (fun y=>y.1 == x) with
 | some i=>rw [e] at h;simp at h
 | none =>
  rw [List.findIdx?_eq_none_iff] at e
  intro hm
  obtain⟨y,hy,rfl⟩:=List.mem_map.1 hm
  have:=e y hy
  simp at this
theorem map_set_same {l:List Atr}{k:Nat}{y:Atr}(hy:l[k]? = some y)(v:List UInt8):(l.set k (y.1,v)).map (·.1)=l.map (·.1):=by
 apply List.ext_getElem?
 intro j
 simp only [List.getElem?_map,List.getElem?_set]
 by_cases e:k=j
 ·subst e
  have hk:=(List.getElem?_eq_some_iff.1 hy).1
  rw [if_pos rfl,if_pos hk,hy];rfl
 ·rw [if_neg e]
theorem hM_neg (S:Tr)(σ : Nat→Nat):hM S σ (-1)=0:=by unfold hM;rw [if_pos (by omega)]
theorem rcA_in (S:Tr)(σ : Nat→Nat)(i:Nat)(name old:List UInt8)(had:Bool):encR (trR S σ (rcA i name old had))=recC 3 (S.hd (σ i)) 0 0 0 0 name old had 0 0:=by
 unfold trR rcA
 simp only [hM_neg,hM_nat]
 rfl
theorem Tw.fresh_lv {ex:Prop}{E:Nat→Prop}{c:Nat}{S:Tr}{K:Nat→List Nat}{M:List MN}{σ : Nat→Nat}(W:Tw ex E c S K M σ){i:Nat}{m:MN}(hi:lv M i=some m):m.gone=false:=by
 unfold lv at hi
 cases e:M[i]? with
 | none=>rw [e] at hi;cases hi
 | some x =>
  rw [e] at hi
  cases hg:x.gone with
  | true=>simp [hg] at hi
  | false=>simp [hg] at hi;rw [← hi];exact hg
theorem NdOk.attrs {c:Nat}{n:Nd}(h:NdOk c n)(hk:n.kind=2)(av:Value)(l:List Atr)(h1:∀a∈l,headB a.1=true∧Lib.validD a.2=true∧a.1.length≤200∧a.2.length≤200)(h2:(l.map (·.1)).Nodup)(h3:l.length≤64):NdOk c { n with av:=av,attrs:=l } :=
 ⟨h.kd,h.el,fun e=>(by have e:n.kind=3∨n.kind=4:=e;omega),fun e=>(by have e:n.kind=1:=e;omega),h1,h2,h3,h.dl,h.nl⟩
theorem Tw.setA {E:Nat→Prop}{c W0:Nat}{S S':Tr}{K:Nat→List Nat}{d:Nat→Nat}{M M':List MN}{σ : Nat→Nat}(W:Tw True E c S K M σ)(T:TrOk c S K d){i:Nat}{m:MN}{n:Nd}(hi:lv M i=some m)(hn:S.at (σ i)=some n){name val:List UInt8}{rs:List Rc}{en en':Int}{v:Value}{l:List (List Value)}
  (hm:MSet M i m name val M' rs en)(ht:SetX W0 S (σ i) n name val S' v en' l)(hna:name.length≤200)(hva:val.length≤50)(hc:c≤60) :
  en'=en∧l=rs.map (fun r=>encR (trR S σ r))∧TrOk (c+1) S' K d∧Tw True E (c+1) S' K M' σ:=by
 obtain⟨n',hn',hkd,hnm,hdt,hat⟩:=W.node i m hi
 rw [hn] at hn';cases hn'
 have hat:=hat trivial
 have hma:=W.ma i m hi
 have T1:=T.mono (Nat.le_succ c)
 have W1:=W.mono (Nat.le_succ c)
 have hok:=T1.nd _ n hn
 have hfx:=fix_len val
 have hnew:headB name=true→headB name=true∧Lib.validD (fix val)=true∧name.length≤200∧(fix val).length≤200:=fun h=>⟨h,fix_valid _,hna,by omega⟩
 have hv:=W.fresh_lv hi
 cases ht with
 | kind h=>cases hm with
  | kind _=>exact⟨rfl,rfl,T1,W1⟩
  | arg hk _=>exact absurd (hkd.trans hk) h
  | add hk _ _=>exact absurd (hkd.trans hk) h
  | set k y hk _ _ _=>exact absurd (hkd.trans hk) h
 | arg hk h=>cases hm with
  | kind h2=>exact absurd (hkd.symm.trans hk) h2
  | arg _ _=>exact⟨rfl,rfl,T1,W1⟩
  | add _ h2 _=>rw [h] at h2;cases h2
  | set k y _ h2 _ _=>rw [h] at h2;cases h2
 | full hk h h1 h2=>rw [hat] at h2;omega
 | add v av hk h h1 h2 hfr=>cases hm with
  | kind h3=>exact absurd (hkd.symm.trans hk) h3
  | arg _ h3=>rw [h] at h3;cases h3
  | set k y _ _ h3 _=>rw [hat] at h1;rw [h1] at h3;omega
  | add _ _ _ =>
   refine⟨rfl,by simp [rcA_in],T1.put hn rfl rfl rfl rfl rfl rfl (hok.attrs hk av _ (fun a ha=>?_) ?_ (by simp;omega)),W1.put hi hn hkd hnm hdt (fun _=>by rw [hat,fix_rfix]) rfl rfl hv (by simp;omega)⟩
   ·rcases List.mem_append.1 ha with ha | ha
    ·exact hok.at_ a ha
    ·rw [List.mem_singleton] at ha;subst ha;exact hnew h
   ·rw [List.map_append,List.nodup_append]
    refine⟨hok.nd,by simp,fun a ha b hb e=>?_⟩
    simp at hb
    subst hb e
    exact nmOf_neg h1 ha
 | set v av k y hk h h1 h2 hfr=>cases hm with
  | kind h3=>exact absurd (hkd.symm.trans hk) h3
  | arg _ h3=>rw [h] at h3;cases h3
  | add _ _ h3=>rw [hat] at h1;rw [h1] at h3;omega
  | set k' y' _ _ h3 h4 =>
   rw [hat] at h1 h2
   have e:k=k':=by rw [h1] at h3;omega
   subst e
   rw [h2] at h4;cases h4
   have hyn:=nmOf_at h1 h2
   refine⟨rfl,by simp [rcA_in],T1.put hn rfl rfl rfl rfl rfl rfl (hok.attrs hk av _ (fun a ha=>?_) ?_ (by simp;exact hok.al)),W1.put hi hn hkd hnm hdt (fun _=>by rw [hat,fix_rfix]) rfl rfl hv (by simp;omega)⟩
   ·rcases mem_set_or ha with e | ha
    ·subst e;rw [hyn];exact hnew h
    ·exact hok.at_ a ha
   ·rw [hat,map_set_same h2,← hat];exact hok.nd
theorem Tw.drpA {E:Nat→Prop}{c W0:Nat}{S S':Tr}{K:Nat→List Nat}{d:Nat→Nat}{M M':List MN}{σ : Nat→Nat}(W:Tw True E c S K M σ)(T:TrOk c S K d){i:Nat}{m:MN}{n:Nd}(hi:lv M i=some m)(hn:S.at (σ i)=some n){name:List UInt8}{rs:List Rc}{en en':Int}{v:Value}{l:List (List Value)}
  (hm:MDrp M i m name M' rs en)(ht:DrpX W0 S (σ i) n name S' v en' l) :
  en'=en∧l=rs.map (fun r=>encR (trR S σ r))∧TrOk c S' K d∧Tw True E c S' K M' σ:=by
 obtain⟨n',hn',hkd,hnm,hdt,hat⟩:=W.node i m hi
 rw [hn] at hn';cases hn'
 have hat:=hat trivial
 have hma:=W.ma i m hi
 have hok:=T.nd _ n hn
 have hv:=W.fresh_lv hi
 cases ht with
 | kind h=>cases hm with
  | kind _=>exact⟨rfl,rfl,T,W⟩
  | no hk _=>exact absurd (hkd.trans hk) h
  | cut k y hk _ _=>exact absurd (hkd.trans hk) h
 | no hk h1=>cases hm with
  | kind h3=>exact absurd (hkd.symm.trans hk) h3
  | no _ _=>exact⟨rfl,rfl,T,W⟩
  | cut k y _ h3 _=>rw [hat] at h1;rw [h1] at h3;omega
 | cut v av k y hk h1 h2 hfr=>cases hm with
  | kind h3=>exact absurd (hkd.symm.trans hk) h3
  | no _ h3=>rw [hat] at h1;rw [h1] at h3;omega
  | cut k' y' _ h3 h4 =>
   rw [hat] at h1 h2
   have e:k=k':=by rw [h1] at h3;omega
   subst e
   rw [h2] at h4;cases h4
   have hsub:(n.attrs.eraseIdx k).Sublist n.attrs:=List.eraseIdx_sublist _ _
   have hal:=hok.al
   have hle:=hsub.length_le
   have hle2:(m.attrs.eraseIdx k).length≤m.attrs.length:=(List.eraseIdx_sublist _ _).length_le
   refine⟨rfl,by simp [rcA_in],T.put hn rfl rfl rfl rfl rfl rfl (hok.attrs hk av _ (fun a ha=>hok.at_ a (hsub.subset ha)) ((hsub.map _).nodup hok.nd) (by omega)),W.put hi hn hkd hnm hdt (fun _=>by rw [hat]) rfl rfl hv (by show(m.attrs.eraseIdx k).length≤c+2;omega)⟩
def repD (data:List UInt8)(ix cnt:Int)(s:List UInt8):List UInt8 :=
 sliceF data 0 ix ++ fix s ++ sliceF data (ix+min cnt (Lib.runeCount ⟨data.toArray⟩ - ix)) (Lib.runeCount ⟨data.toArray⟩)
inductive RepX (S:Tr) (i:Nat) (n:Nd) (ix cnt:Int) (s:List UInt8):Tr→Value→Int→List (List Value)→Prop
 | kind (h:n.kind=1∨n.kind=2):RepX S i n ix cnt s S (.slice none 0 0) 10 []
 | rng (hk:n.kind=3∨n.kind=4) (h:ix < 0∨(Lib.runeCount ⟨n.data.toArray⟩:Int) < ix∨cnt < 0):RepX S i n ix cnt s S (.slice none 0 0) 2 []
 | long (hk:n.kind=3∨n.kind=4) (h:1048576 < (repD n.data ix cnt s).length):RepX S i n ix cnt s S (.slice none 0 0) 5 []
 | yes (v:Value) (hk:n.kind=3∨n.kind=4) (h0:0≤ix) (h1:ix≤(Lib.runeCount ⟨n.data.toArray⟩:Int)) (h2:0≤cnt) :
   RepX S i n ix cnt s (S.put i { n with data:=repD n.data ix cnt s }) v 0 [recC 4 (S.hd i) 0 0 0 ix [] n.data false (min cnt (Lib.runeCount ⟨n.data.toArray⟩ - ix)) (Lib.runeCount ⟨(fix s).toArray⟩)]
theorem replace_x3 {B R g cap:Nat}{S:Tr}{fv:Value}{w:World}{K d}(h:TAt B R S (.slice (some ⟨g,0,none⟩) S.slots.length cap) fv w)(hL:Lk S K d)(i:Nat)(n:Nd)(hi:S.at i=some n)(hk:n.kind=3)(hl:n.data.length≤1048576)
  (ix cnt:Int)(h0:-1000≤ix)(h1:ix≤1000)(h2:-2000000≤cnt)(h3:cnt≤2000000)(s:List UInt8)(hs:s.length≤100000)(hT:Laid w) :
  Calls Tryz.prog 19 #[.pointer (some ⟨R,0,none⟩),.int .i64 (S.hd i),.int .i64 ix,.int .i64 cnt,strV s] w fun e w'=>∃S' v er l,RepX S i n ix cnt s S' v er l∧e=.returned (.tuple #[v,.int .i64 er]) ∧
   RcAt w' w.heap.size v l∧TAt B R S' (.slice (some ⟨g,0,none⟩) S'.slots.length cap) fv w'∧Chg (fun k=>k=g) w w':=by
 have HA:=Lib.hid (at_some h (S.hd i) (hd_ok hL hi).1 (hd_ix hL hi))
 have HC:=Lib.hid (fun wx (hb:Below w.heap.size w wx)=>nd_cell (h.below hb) hi 0 (by omega))
 have HD:=Lib.hid (fun wx (hb:Below w.heap.size w wx)=>nd_cell (h.below hb) hi 3 (by omega))
 have HF:=Lib.hid (fun wx (hb:Below w.heap.size w wx)=>nd_free (h.below hb) (i*10+1+3))
 simp only [ndC,zzD,zzE] at HC HD
 simp only [hk] at HC
 have HTx:=Lib.hid h
 have Hi:=Lib.hid hi
 have HLn:=Lib.hid (fun wx=>len_text n.data wx (by omega))
 have hrc:=runeCount_len n.data
 have HRp:=Lib.hid (fun wx (hb:Below w.heap.size w wx)=>repair_any s wx (by omega) (hT.below hb))
 have hfl:=fix_len s
 have HSl:=Lib.hid (fun a b wx (hb:Below w.heap.size w wx)=>slice_any n.data a b wx (by omega) (hT.below hb))
 have hsl:=sliceF_len n.data
 have HLn2:=Lib.hid (fun wx=>len_text (fix s) wx (by omega))
 unfold strV at *
 have HKd:=Lib.hid (show n.kind=3∨n.kind=4 from by omega)
 have HEnd:=Lib.hid (fun(v:Value) (h4:0≤ix) (h5:ix≤(Lib.runeCount ⟨n.data.toArray⟩:Int)) (h6:0≤cnt)=>RepX.yes (S:=S) (i:=i) (n:=n) (s:=s) v HKd.out h4 h5 h6)
 have HRng:=Lib.hid (fun(h4:ix < 0∨(Lib.runeCount ⟨n.data.toArray⟩:Int) < ix∨cnt < 0)=>RepX.rng (S:=S) (i:=i) (s:=s) HKd.out h4)
 have HLong:=Lib.hid (fun(h4:1048576 < (repD n.data ix cnt s).length)=>RepX.long (S:=S) (i:=i) HKd.out h4)
 unfold repD at HEnd HLong
 generalize RepX S i n ix cnt s=RX at *
 generalize (Lib.runeCount ⟨n.data.toArray⟩)=rc at *
 generalize (Lib.runeCount ⟨(fix s).toArray⟩)=rc2 at *
 generalize fix s=s' at *
 clear h hL hi hT hk
 go_enter Tryz.func19,Tryz.ntmps19
 go_wp2_with fail
 refine HA.out.mono ?_
 rintro e w1 ⟨rfl,hb1⟩
 have c0:=HC.out _ hb1
 have c3:=HD.out _ hb1
 go_wp2_with fail
 refine(HLn.out _).mono ?_
 rintro e w2 ⟨rfl,hb2⟩
 have hB2:=bthen hb1 hb2
 clear c0 c3
 by_cases hneg:ix < 0
 ·have e0:decide (ix < 0)=true:=by simpa using hneg
  go_wp2_with fail
  go_ret2
  exact⟨S,_,2,[],HRng.out (.inl hneg),rfl,World.ownsRow_nil _ _ _ _,HTx.out.below hB2,Chg.of_below hB2⟩
 have e0:decide (ix < 0)=false:=by simpa using hneg
 by_cases hrg:(rc:Int) < ix
 ·have e1:decide ((rc:Int) < ix)=true:=by simpa using hrg
  go_wp2_with fail
  go_ret2
  exact⟨S,_,2,[],HRng.out (.inr (.inl hrg)),rfl,World.ownsRow_nil _ _ _ _,HTx.out.below hB2,Chg.of_below hB2⟩
 ·have e1:decide ((rc:Int) < ix)=false:=by simpa using hrg
  by_cases hcn:cnt < 0
  ·have e2:decide (cnt < 0)=true:=by simpa using hcn
   go_wp2_with fail
   go_ret2
   exact⟨S,_,2,[],HRng.out (.inr (.inr hcn)),rfl,World.ownsRow_nil _ _ _ _,HTx.out.below hB2,Chg.of_below hB2⟩
  have e2:decide (cnt < 0)=false:=by simpa using hcn
  go_wp2_with fail
  refine(HRp.out _ hB2).mono ?_
  rintro e w3 ⟨rfl,hb3⟩
  have hB3:=bthen hB2 hb3
  have g3:g < w3.heap.size:=Nat.lt_of_lt_of_le (HTx.out.slots.lt g rfl).2 hB3.size
  have c3:=HD.out _ hB3
  have x3:∀x:InS (StB w3),x.w.cell? ⟨g,i*10+1+3,none⟩=some (.string ⟨n.data.toArray⟩):=fun x=>((bcell x.h).1 _ _ g3).trans c3
  have hne:=stb_ne w3
  go_upto_region 11 with fail
  obtain⟨c1,hcnt⟩:∃c1,c1=min cnt ((rc:Int) - ix):=⟨_,rfl⟩
  rw [← hcnt]
  rw [← hcnt] at HEnd HLong
  have hc0:0≤c1∧c1≤(rc:Int) - ix:=by omega
  clear hcnt
  have hl1:=hsl 0 ix
  have hl2:=hsl (ix+c1) (rc:Int)
  generalize ht1:sliceF n.data 0 ix=t1 at *
  generalize ht2:sliceF n.data (ix+c1) (rc:Int)=t2 at *
  refine reg_b (fun k=>if k=0 then .string ⟨t1.toArray⟩ else .string ⟨t2.toArray⟩) 18 (by kernel_rfl) (by kernel_rfl) ?_
  simp only [zzF,zzG,zzH,zzI]
  repeat (first
   | (refine m_held (by rfl) (by rfl) (fun K hK=>?_);go_big_quiet_step (fail);refine wpQuiet_nil ?_;refine hK.out _ ?_;clear hK K)
   | (refine m_skip (by rfl) ?_;simp only [Act.put,zzA,zzB,zzC]))
  refine m_call (.string ⟨t1.toArray⟩) rfl (by rfl) (by rfl) (fun w=>by go_simp;exact⟨rfl,rfl⟩) ?_ ?_
  ·intro X wx hx
   refine(HSl.out 0 ix _ (hB3.trans (hx.mono hB3.size))).mono ?_
   rintro e wy ⟨rfl,hb⟩
   exact⟨by rw [ht1],RowKit.Below.trans hx (hb.mono hx.size)⟩
  simp only [Act.put,zzA,zzB,zzC]
  repeat (first
   | (refine m_held (by rfl) (by rfl) (fun K hK=>?_);go_big_quiet_step (fail);refine wpQuiet_nil ?_;refine hK.out _ ?_;clear hK K)
   | (refine m_skip (by rfl) ?_;simp only [Act.put,zzA,zzB,zzC]))
  refine m_call (.string ⟨t2.toArray⟩) rfl (by rfl) (by rfl) (fun w=>by go_simp;exact⟨rfl,rfl⟩) ?_ ?_
  ·intro X wx hx
   refine(HSl.out (ix+c1) (rc:Int) _ (hB3.trans (hx.mono hB3.size))).mono ?_
   rintro e wy ⟨rfl,hb⟩
   exact⟨by rw [ht2],RowKit.Below.trans hx (hb.mono hx.size)⟩
  simp only [Act.put,zzA,zzB,zzC]
  repeat (first
   | (refine m_held (by rfl) (by rfl) (fun K hK=>?_);go_big_quiet_step (fail);refine wpQuiet_nil ?_;refine hK.out _ ?_;clear hK K)
   | (refine m_skip (by rfl) ?_;simp only [Act.put,zzA,zzB,zzC]))
  refine m_nil ?_
  intro w5 h5
  rw [bytes_app,bytes_app]
  generalize hdat:t1 ++ s' ++ t2=dat at *
  have hdl:dat.length≤20000000:=by rw [← hdat,List.length_append,List.length_append];omega
  have hsz:(⟨dat.toArray⟩:ByteArray).size=dat.length:=by show dat.toArray.size=_;simp
  have HLg:=Lib.hid (fun wx=>long_any ⟨dat.toArray⟩ (by rw [hsz];omega) wx)
  rw [hsz] at HLg
  have hB5:=bthen hB3 h5
  clear hne x3 ht1 ht2 hdat
  by_cases hlong:1048576 < dat.length
  ·rw [decide_eq_true hlong] at HLg
   go_wp2_with fail
   refine(HLg.out _).mono ?_
   rintro e w6 ⟨rfl,hw⟩
   rw [hw]
   clear hw
   go_wp2_with fail
   go_ret2
   exact⟨S,_,5,[],HLong.out hlong,rfl,World.ownsRow_nil _ _ _ _,HTx.out.below hB5,Chg.of_below hB5⟩
  ·rw [decide_eq_false hlong] at HLg
   go_wp2_with fail
   refine(HLg.out _).mono ?_
   rintro e w6 ⟨rfl,hw⟩
   rw [hw]
   clear hw
   have g5:g < w5.heap.size:=Nat.lt_of_lt_of_le (HTx.out.slots.lt g rfl).2 hB5.size
   have c5:=HD.out _ hB5
   have x5:∀x:InS (SomeAll w5.heap.size w5 (fun _=>[])),x.w.cell? ⟨g,i*10+1+3,none⟩=some (.string ⟨n.data.toArray⟩):=fun x=>by
    obtain⟨k,X,hx⟩:=x.h
    exact((bcell hx.below).1 _ _ g5).trans c5
   have hne':Nonempty (InS (SomeAll w5.heap.size w5 (fun _=>[]))):=⟨⟨_,0,[],All.start w5⟩⟩
   go_upto_region 14 with fail
   refine reg_all w5.heap.size w5 (fun _=>[]) (fun _=>.int .i64 (rc2:Int)) (fun _ r=>.pointer (some ⟨r,0,none⟩)) (fun _=>[.int .i64 0,.int .i64 0,.int .i64 0,.int .i64 0,.int .i64 0,.int .i64 0,.string ⟨#[]⟩,.string ⟨#[]⟩,.bool false,.int .i64 0,.int .i64 0]) (fun _=>41) 11 (by kernel_rfl) (by kernel_rfl) (All.start w5) ?_
   simp only [zzF,zzG,zzH,zzI]
   repeat (first
    | (refine m_held (by rfl) (by rfl) (fun K hK=>?_);go_big_quiet_step (fail);refine wpQuiet_nil ?_;refine hK.out _ ?_;clear hK K)
    | (refine m_skip (by rfl) ?_;simp only [Act.put,zzA,zzB,zzC]))
   refine m_call (.int .i64 (rc2:Int)) rfl (by rfl) (by rfl) (fun w=>by go_simp;exact⟨rfl,rfl⟩) ?_ ?_
   ·intro X wx hx
    refine(HLn2.out _).mono ?_
    rintro e wy ⟨rfl,hb⟩
    exact⟨rfl,All.still hx hb⟩
   simp only [Act.put,zzA,zzB,zzC]
   repeat (first
    | (refine m_held (by rfl) (by rfl) (fun K hK=>?_);go_big_quiet_step (fail);refine wpQuiet_nil ?_;refine hK.out _ ?_;clear hK K)
    | (refine m_skip (by rfl) ?_;simp only [Act.put,zzA,zzB,zzC]))
   refine m_made (fun r=>.pointer (some ⟨r,0,none⟩)) [.int .i64 0,.int .i64 0,.int .i64 0,.int .i64 0,.int .i64 0,.int .i64 0,.string ⟨#[]⟩,.string ⟨#[]⟩,.bool false,.int .i64 0,.int .i64 0] 41 rfl rfl rfl (by rfl) (by rfl) (fun w=>by go_simp) ?_
   intro r
   simp only [Act.put,zzA,zzB,zzC]
   refine m_nil ?_
   intro w7 hA7
   simp only [List.cons_append,List.nil_append,List.append_nil] at hA7
   have k7:Blk w7 r (recC 0 0 0 0 0 0 [] [] false 0 0) 41:=hA7.head
   have hr:w5.heap.size≤r:=hA7.base _ (List.Mem.head _) r rfl
   have hB7:Below w5.heap.size w5 w7:=hA7.below
   obtain⟨⟨q0,q1,q2,q3,q4,q5,q6,q7,q8,q9,q10⟩,zf⟩:=rec_cells k7
   clear hne' x5 c5 hA7
   go_upto_region 15 with fail
   refine rec_put (G:=fun wx=>Code.wp _ _ _ _ wx) k7 _ _ _ _ _ _ _ _ _ _ _ ?_
   intro w8 k8 hch8
   clear q0 q1 q2 q3 q4 q5 q6 q7 q8 q9 q10 zf
   have hB8:Below w.heap.size w w8:=(hB5.trans (hB7.mono hB5.size)).trans (hch8.below (Nat.le_trans hB5.size hB7.size) (fun k e=>by subst e;exact Nat.le_trans hB5.size hr))
   have c8:=HD.out _ hB8
   have z8:=HF.out _ hB8
   have HK8:=Lib.hid k8
   clear hch8 k7 k8
   go_upto_region 16 with fail
   have hT10:=(HTx.out.below hB8).setF (n':={ n with data:=dat }) Hi.out 3 (.string ⟨dat.toArray⟩) (by omega) rfl rfl rfl
   have hch10:Chg (fun k=>k=g) w (w8.setCell ⟨g,i*10+1+3,none⟩ (.string ⟨dat.toArray⟩)):=(Chg.of_below (F:=fun k=>k=g) hB8).setCell ⟨g,i*10+1+3,none⟩ (fun _=>(rfl:g=g)) _
   have hk10:=HK8.out.setOther ⟨g,i*10+1+3,none⟩ (by show r≠g;omega) (.string ⟨dat.toArray⟩)
   have hs10:w.heap.size≤(w8.setCell ⟨g,i*10+1+3,none⟩ (.string ⟨dat.toArray⟩)).heap.size:=by simp [World.setCell];exact hB8.size
   have HT10:=Lib.hid hT10
   have HCh10:=Lib.hid hch10
   clear hT10 hch10 HK8 c8 z8
   generalize w8.setCell ⟨g,i*10+1+3,none⟩ (.string ⟨dat.toArray⟩)=w10 at *
   have b0:=hk10.cell 0
   have b1:=hk10.cell 1
   have b2:=hk10.cell 2
   have b3:=hk10.cell 3
   have b4:=hk10.cell 4
   have b5:=hk10.cell 5
   have b6:=hk10.cell 6
   have b7:=hk10.cell 7
   have b8:=hk10.cell 8
   have b9:=hk10.cell 9
   have b10:=hk10.cell 10
   simp only [zzD,zzE] at b0 b1 b2 b3 b4 b5 b6 b7 b8 b9 b10
   go_wp2_with fail
   go_ret2
   refine⟨_,_,0,_,HEnd.out _ (by omega) (by omega) (by omega),rfl,?_,HT10.out.below ((Below.refl _ w10).alloc (Nat.le_refl _) _),HCh10.out.alloc _⟩
   exact rc_new w10 _ hs10 rfl
theorem replace_x4 {B R g cap:Nat}{S:Tr}{fv:Value}{w:World}{K d}(h:TAt B R S (.slice (some ⟨g,0,none⟩) S.slots.length cap) fv w)(hL:Lk S K d)(i:Nat)(n:Nd)(hi:S.at i=some n)(hk:n.kind=4)(hl:n.data.length≤1048576)
  (ix cnt:Int)(h0:-1000≤ix)(h1:ix≤1000)(h2:-2000000≤cnt)(h3:cnt≤2000000)(s:List UInt8)(hs:s.length≤100000)(hT:Laid w) :
  Calls Tryz.prog 19 #[.pointer (some ⟨R,0,none⟩),.int .i64 (S.hd i),.int .i64 ix,.int .i64 cnt,strV s] w fun e w'=>∃S' v er l,RepX S i n ix cnt s S' v er l∧e=.returned (.tuple #[v,.int .i64 er]) ∧
   RcAt w' w.heap.size v l∧TAt B R S' (.slice (some ⟨g,0,none⟩) S'.slots.length cap) fv w'∧Chg (fun k=>k=g) w w':=by
 have HA:=Lib.hid (at_some h (S.hd i) (hd_ok hL hi).1 (hd_ix hL hi))
 have HC:=Lib.hid (fun wx (hb:Below w.heap.size w wx)=>nd_cell (h.below hb) hi 0 (by omega))
 have HD:=Lib.hid (fun wx (hb:Below w.heap.size w wx)=>nd_cell (h.below hb) hi 3 (by omega))
 have HF:=Lib.hid (fun wx (hb:Below w.heap.size w wx)=>nd_free (h.below hb) (i*10+1+3))
 simp only [ndC,zzD,zzE] at HC HD
 simp only [hk] at HC
 have HTx:=Lib.hid h
 have Hi:=Lib.hid hi
 have HLn:=Lib.hid (fun wx=>len_text n.data wx (by omega))
 have hrc:=runeCount_len n.data
 have HRp:=Lib.hid (fun wx (hb:Below w.heap.size w wx)=>repair_any s wx (by omega) (hT.below hb))
 have hfl:=fix_len s
 have HSl:=Lib.hid (fun a b wx (hb:Below w.heap.size w wx)=>slice_any n.data a b wx (by omega) (hT.below hb))
 have hsl:=sliceF_len n.data
 have HLn2:=Lib.hid (fun wx=>len_text (fix s) wx (by omega))
 unfold strV at *
 have HKd:=Lib.hid (show n.kind=3∨n.kind=4 from by omega)
 have HEnd:=Lib.hid (fun(v:Value) (h4:0≤ix) (h5:ix≤(Lib.runeCount ⟨n.data.toArray⟩:Int)) (h6:0≤cnt)=>RepX.yes (S:=S) (i:=i) (n:=n) (s:=s) v HKd.out h4 h5 h6)
 have HRng:=Lib.hid (fun(h4:ix < 0∨(Lib.runeCount ⟨n.data.toArray⟩:Int) < ix∨cnt < 0)=>RepX.rng (S:=S) (i:=i) (s:=s) HKd.out h4)
 have HLong:=Lib.hid (fun(h4:1048576 < (repD n.data ix cnt s).length)=>RepX.long (S:=S) (i:=i) HKd.out h4)
 unfold repD at HEnd HLong
 generalize RepX S i n ix cnt s=RX at *
 generalize (Lib.runeCount ⟨n.data.toArray⟩)=rc at *
 generalize (Lib.runeCount ⟨(fix s).toArray⟩)=rc2 at *
 generalize fix s=s' at *
 clear h hL hi hT hk
 go_enter Tryz.func19,Tryz.ntmps19
 go_wp2_with fail
 refine HA.out.mono ?_
 rintro e w1 ⟨rfl,hb1⟩
 have c0:=HC.out _ hb1
 have c3:=HD.out _ hb1
 go_wp2_with fail
 refine(HLn.out _).mono ?_
 rintro e w2 ⟨rfl,hb2⟩
 have hB2:=bthen hb1 hb2
 clear c0 c3
 by_cases hneg:ix < 0
 ·have e0:decide (ix < 0)=true:=by simpa using hneg
  go_wp2_with fail
  go_ret2
  exact⟨S,_,2,[],HRng.out (.inl hneg),rfl,World.ownsRow_nil _ _ _ _,HTx.out.below hB2,Chg.of_below hB2⟩
 have e0:decide (ix < 0)=false:=by simpa using hneg
 by_cases hrg:(rc:Int) < ix
 ·have e1:decide ((rc:Int) < ix)=true:=by simpa using hrg
  go_wp2_with fail
  go_ret2
  exact⟨S,_,2,[],HRng.out (.inr (.inl hrg)),rfl,World.ownsRow_nil _ _ _ _,HTx.out.below hB2,Chg.of_below hB2⟩
 ·have e1:decide ((rc:Int) < ix)=false:=by simpa using hrg
  by_cases hcn:cnt < 0
  ·have e2:decide (cnt < 0)=true:=by simpa using hcn
   go_wp2_with fail
   go_ret2
   exact⟨S,_,2,[],HRng.out (.inr (.inr hcn)),rfl,World.ownsRow_nil _ _ _ _,HTx.out.below hB2,Chg.of_below hB2⟩
  have e2:decide (cnt < 0)=false:=by simpa using hcn
  go_wp2_with fail
  refine(HRp.out _ hB2).mono ?_
  rintro e w3 ⟨rfl,hb3⟩
  have hB3:=bthen hB2 hb3
  have g3:g < w3.heap.size:=Nat.lt_of_lt_of_le (HTx.out.slots.lt g rfl).2 hB3.size
  have c3:=HD.out _ hB3
  have x3:∀x:InS (StB w3),x.w.cell? ⟨g,i*10+1+3,none⟩=some (.string ⟨n.data.toArray⟩):=fun x=>((bcell x.h).1 _ _ g3).trans c3
  have hne:=stb_ne w3
  go_upto_region 11 with fail
  obtain⟨c1,hcnt⟩:∃c1,c1=min cnt ((rc:Int) - ix):=⟨_,rfl⟩
  rw [← hcnt]
  rw [← hcnt] at HEnd HLong
  have hc0:0≤c1∧c1≤(rc:Int) - ix:=by omega
  clear hcnt
  have hl1:=hsl 0 ix
  have hl2:=hsl (ix+c1) (rc:Int)
  generalize ht1:sliceF n.data 0 ix=t1 at *
  generalize ht2:sliceF n.data (ix+c1) (rc:Int)=t2 at *
  refine reg_b (fun k=>if k=0 then .string ⟨t1.toArray⟩ else .string ⟨t2.toArray⟩) 18 (by kernel_rfl) (by kernel_rfl) ?_
  simp only [zzF,zzG,zzH,zzI]
  repeat (first
   | (refine m_held (by rfl) (by rfl) (fun K hK=>?_);go_big_quiet_step (fail);refine wpQuiet_nil ?_;refine hK.out _ ?_;clear hK K)
   | (refine m_skip (by rfl) ?_;simp only [Act.put,zzA,zzB,zzC]))
  refine m_call (.string ⟨t1.toArray⟩) rfl (by rfl) (by rfl) (fun w=>by go_simp;exact⟨rfl,rfl⟩) ?_ ?_
  ·intro X wx hx
   refine(HSl.out 0 ix _ (hB3.trans (hx.mono hB3.size))).mono ?_
   rintro e wy ⟨rfl,hb⟩
   exact⟨by rw [ht1],RowKit.Below.trans hx (hb.mono hx.size)⟩
  simp only [Act.put,zzA,zzB,zzC]
  repeat (first
   | (refine m_held (by rfl) (by rfl) (fun K hK=>?_);go_big_quiet_step (fail);refine wpQuiet_nil ?_;refine hK.out _ ?_;clear hK K)
   | (refine m_skip (by rfl) ?_;simp only [Act.put,zzA,zzB,zzC]))
  refine m_call (.string ⟨t2.toArray⟩) rfl (by rfl) (by rfl) (fun w=>by go_simp;exact⟨rfl,rfl⟩) ?_ ?_
  ·intro X wx hx
   refine(HSl.out (ix+c1) (rc:Int) _ (hB3.trans (hx.mono hB3.size))).mono ?_
   rintro e wy ⟨rfl,hb⟩
   exact⟨by rw [ht2],RowKit.Below.trans hx (hb.mono hx.size)⟩
  simp only [Act.put,zzA,zzB,zzC]
  repeat (first
   | (refine m_held (by rfl) (by rfl) (fun K hK=>?_);go_big_quiet_step (fail);refine wpQuiet_nil ?_;refine hK.out _ ?_;clear hK K)
   | (refine m_skip (by rfl) ?_;simp only [Act.put,zzA,zzB,zzC]))
  refine m_nil ?_
  intro w5 h5
  rw [bytes_app,bytes_app]
  generalize hdat:t1 ++ s' ++ t2=dat at *
  have hdl:dat.length≤20000000:=by rw [← hdat,List.length_append,List.length_append];omega
  have hsz:(⟨dat.toArray⟩:ByteArray).size=dat.length:=by show dat.toArray.size=_;simp
  have HLg:=Lib.hid (fun wx=>long_any ⟨dat.toArray⟩ (by rw [hsz];omega) wx)
  rw [hsz] at HLg
  have hB5:=bthen hB3 h5
  clear hne x3 ht1 ht2 hdat
  by_cases hlong:1048576 < dat.length
  ·rw [decide_eq_true hlong] at HLg
   go_wp2_with fail
   refine(HLg.out _).mono ?_
   rintro e w6 ⟨rfl,hw⟩
   rw [hw]
   clear hw
   go_wp2_with fail
   go_ret2
   exact⟨S,_,5,[],HLong.out hlong,rfl,World.ownsRow_nil _ _ _ _,HTx.out.below hB5,Chg.of_below hB5⟩
  ·rw [decide_eq_false hlong] at HLg
   go_wp2_with fail
   refine(HLg.out _).mono ?_
   rintro e w6 ⟨rfl,hw⟩
   rw [hw]
   clear hw
   have g5:g < w5.heap.size:=Nat.lt_of_lt_of_le (HTx.out.slots.lt g rfl).2 hB5.size
   have c5:=HD.out _ hB5
   have x5:∀x:InS (SomeAll w5.heap.size w5 (fun _=>[])),x.w.cell? ⟨g,i*10+1+3,none⟩=some (.string ⟨n.data.toArray⟩):=fun x=>by
    obtain⟨k,X,hx⟩:=x.h
    exact((bcell hx.below).1 _ _ g5).trans c5
   have hne':Nonempty (InS (SomeAll w5.heap.size w5 (fun _=>[]))):=⟨⟨_,0,[],All.start w5⟩⟩
   go_upto_region 14 with fail
   refine reg_all w5.heap.size w5 (fun _=>[]) (fun _=>.int .i64 (rc2:Int)) (fun _ r=>.pointer (some ⟨r,0,none⟩)) (fun _=>[.int .i64 0,.int .i64 0,.int .i64 0,.int .i64 0,.int .i64 0,.int .i64 0,.string ⟨#[]⟩,.string ⟨#[]⟩,.bool false,.int .i64 0,.int .i64 0]) (fun _=>41) 11 (by kernel_rfl) (by kernel_rfl) (All.start w5) ?_
   simp only [zzF,zzG,zzH,zzI]
   repeat (first
    | (refine m_held (by rfl) (by rfl) (fun K hK=>?_);go_big_quiet_step (fail);refine wpQuiet_nil ?_;refine hK.out _ ?_;clear hK K)
    | (refine m_skip (by rfl) ?_;simp only [Act.put,zzA,zzB,zzC]))
   refine m_call (.int .i64 (rc2:Int)) rfl (by rfl) (by rfl) (fun w=>by go_simp;exact⟨rfl,rfl⟩) ?_ ?_
   ·intro X wx hx
    refine(HLn2.out _).mono ?_
    rintro e wy ⟨rfl,hb⟩
    exact⟨rfl,All.still hx hb⟩
   simp only [Act.put,zzA,zzB,zzC]
   repeat (first
    | (refine m_held (by rfl) (by rfl) (fun K hK=>?_);go_big_quiet_step (fail);refine wpQuiet_nil ?_;refine hK.out _ ?_;clear hK K)
    | (refine m_skip (by rfl) ?_;simp only [Act.put,zzA,zzB,zzC]))
   refine m_made (fun r=>.pointer (some ⟨r,0,none⟩)) [.int .i64 0,.int .i64 0,.int .i64 0,.int .i64 0,.int .i64 0,.int .i64 0,.string ⟨#[]⟩,.string ⟨#[]⟩,.bool false,.int .i64 0,.int .i64 0] 41 rfl rfl rfl (by rfl) (by rfl) (fun w=>by go_simp) ?_
   intro r
   simp only [Act.put,zzA,zzB,zzC]
   refine m_nil ?_
   intro w7 hA7
   simp only [List.cons_append,List.nil_append,List.append_nil] at hA7
   have k7:Blk w7 r (recC 0 0 0 0 0 0 [] [] false 0 0) 41:=hA7.head
   have hr:w5.heap.size≤r:=hA7.base _ (List.Mem.head _) r rfl
   have hB7:Below w5.heap.size w5 w7:=hA7.below
   obtain⟨⟨q0,q1,q2,q3,q4,q5,q6,q7,q8,q9,q10⟩,zf⟩:=rec_cells k7
   clear hne' x5 c5 hA7
   go_upto_region 15 with fail
   refine rec_put (G:=fun wx=>Code.wp _ _ _ _ wx) k7 _ _ _ _ _ _ _ _ _ _ _ ?_
   intro w8 k8 hch8
   clear q0 q1 q2 q3 q4 q5 q6 q7 q8 q9 q10 zf
   have hB8:Below w.heap.size w w8:=(hB5.trans (hB7.mono hB5.size)).trans (hch8.below (Nat.le_trans hB5.size hB7.size) (fun k e=>by subst e;exact Nat.le_trans hB5.size hr))
   have c8:=HD.out _ hB8
   have z8:=HF.out _ hB8
   have HK8:=Lib.hid k8
   clear hch8 k7 k8
   go_upto_region 16 with fail
   have hT10:=(HTx.out.below hB8).setF (n':={ n with data:=dat }) Hi.out 3 (.string ⟨dat.toArray⟩) (by omega) rfl rfl rfl
   have hch10:Chg (fun k=>k=g) w (w8.setCell ⟨g,i*10+1+3,none⟩ (.string ⟨dat.toArray⟩)):=(Chg.of_below (F:=fun k=>k=g) hB8).setCell ⟨g,i*10+1+3,none⟩ (fun _=>(rfl:g=g)) _
   have hk10:=HK8.out.setOther ⟨g,i*10+1+3,none⟩ (by show r≠g;omega) (.string ⟨dat.toArray⟩)
   have hs10:w.heap.size≤(w8.setCell ⟨g,i*10+1+3,none⟩ (.string ⟨dat.toArray⟩)).heap.size:=by simp [World.setCell];exact hB8.size
   have HT10:=Lib.hid hT10
   have HCh10:=Lib.hid hch10
   clear hT10 hch10 HK8 c8 z8
   generalize w8.setCell ⟨g,i*10+1+3,none⟩ (.string ⟨dat.toArray⟩)=w10 at *
   have b0:=hk10.cell 0
   have b1:=hk10.cell 1
   have b2:=hk10.cell 2
   have b3:=hk10.cell 3
   have b4:=hk10.cell 4
   have b5:=hk10.cell 5
   have b6:=hk10.cell 6
   have b7:=hk10.cell 7
   have b8:=hk10.cell 8
   have b9:=hk10.cell 9
   have b10:=hk10.cell 10
   simp only [zzD,zzE] at b0 b1 b2 b3 b4 b5 b6 b7 b8 b9 b10
   go_wp2_with fail
   go_ret2
   refine⟨_,_,0,_,HEnd.out _ (by omega) (by omega) (by omega),rfl,?_,HT10.out.below ((Below.refl _ w10).alloc (Nat.le_refl _) _),HCh10.out.alloc _⟩
   exact rc_new w10 _ hs10 rfl
theorem replace_x {B R g cap:Nat}{S:Tr}{fv:Value}{w:World}{K d}(h:TAt B R S (.slice (some ⟨g,0,none⟩) S.slots.length cap) fv w)(hL:Lk S K d)(i:Nat)(n:Nd)(hi:S.at i=some n)(hk:n.kind=1∨n.kind=2∨n.kind=3∨n.kind=4)(hl:n.data.length≤1048576)
  (ix cnt:Int)(h0:-1000≤ix)(h1:ix≤1000)(h2:-2000000≤cnt)(h3:cnt≤2000000)(s:List UInt8)(hs:s.length≤100000)(hT:Laid w) :
  Calls Tryz.prog 19 #[.pointer (some ⟨R,0,none⟩),.int .i64 (S.hd i),.int .i64 ix,.int .i64 cnt,strV s] w fun e w'=>∃S' v er l,RepX S i n ix cnt s S' v er l∧e=.returned (.tuple #[v,.int .i64 er]) ∧
   RcAt w' w.heap.size v l∧TAt B R S' (.slice (some ⟨g,0,none⟩) S'.slots.length cap) fv w'∧Chg (fun k=>k=g) w w':=by
 by_cases h12:n.kind=1∨n.kind=2
 ·refine(replace_kind h hL i n hi h12 _ _ _).mono ?_
  rintro e w1 ⟨rfl,hb⟩
  exact⟨S,_,10,[],.kind h12,rfl,World.ownsRow_nil _ _ _ _,h.below hb,Chg.of_below hb⟩
 ·by_cases h4:n.kind=3
  ·exact replace_x3 h hL i n hi h4 hl ix cnt h0 h1 h2 h3 s hs hT
  ·exact replace_x4 h hL i n hi (by omega) hl ix cnt h0 h1 h2 h3 s hs hT
end Go.Proofs.YtfelmdkeaacfeaaGreatDoor.W
end
