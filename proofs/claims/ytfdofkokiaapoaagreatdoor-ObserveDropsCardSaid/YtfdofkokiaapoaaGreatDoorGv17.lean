/- Texts joined: NoteG Make MakeT DocM. -/
import Derived.Test.YtfdofkokiaapoaaGreatDoorGv13
import Derived.Test.YtfdofkokiaapoaaGreatDoorGv9
import Derived.Test.YtfdofkokiaapoaaGreatDoorGv4
import Derived.Deep.CutBlock
import Derived.Test.YtfdofkokiaapoaaGreatDoorGv8
import Derived.Test.YtfdofkokiaapoaaGreatDoorGv14
import Derived.Test.YtfdofkokiaapoaaGreatDoorGv6
section
/- Note, in general: every observer is told of the records that its watches cover. -/
namespace Go.Proofs.YtfdofkokiaapoaaGreatDoor.W
open Go.RowKit
set_option linter.unusedVariables false
set_option linter.unusedSimpArgs false

/-- an observer, and where its watches lie -/
abbrev Op2 := Ov × Value
def pz (x : Oz) : Op2 := (x.1, x.2.1)
def upR (c : Wb → Rc → Bool) (r : Rc) (y : Op2) : Op2 := ({ y.1 with rs := y.1.rs ++ toldR c (y.1.ws.map Wt.bare) r }, y.2)
def upL (c : Wb → Rc → Bool) (rs : List Rc) (y : Op2) : Op2 := ({ y.1 with rs := y.1.rs ++ toldL c (y.1.ws.map Wt.bare) rs }, y.2)
theorem upL_nil (c : Wb → Rc → Bool) (ps : List Op2) : ps.map (upL c []) = ps := by
  have e : upL c [] = id := by
    funext y
    simp [upL, toldL]
  rw [e, List.map_id]
theorem upL_snoc (c : Wb → Rc → Bool) (rs : List Rc) (r : Rc) (ps : List Op2) : (ps.map (upL c rs)).map (upR c r) = ps.map (upL c (rs ++ [r])) := by
  rw [List.map_map]
  refine List.map_congr_left (fun y _ => ?_)
  simp [upL, upR, toldL_snoc]
theorem ng_step {ps : List Op2} {f : Op2 → Op2} {z1 z2 : List Oz} {x : Oz} (x' : Oz) (h : (z1 ++ x :: z2).map pz = (ps.take z1.length).map f ++ ps.drop z1.length) (hx : pz x' = f (pz x)) :
    (z1 ++ x' :: z2).map pz = (ps.take (z1.length + 1)).map f ++ ps.drop (z1.length + 1) := by
  have hlen : (z1 ++ x :: z2).length = ps.length := by
    have := congrArg List.length h
    simp only [List.length_map, List.length_append, List.length_take, List.length_drop, List.length_cons] at this ⊢
    omega
  have hk : z1.length < ps.length := by rw [← hlen]; simp
  have h1 : ps.drop z1.length = ps[z1.length] :: ps.drop (z1.length + 1) := List.drop_eq_getElem_cons hk
  rw [h1, List.map_append, List.map_cons] at h
  have hl : (z1.map pz).length = ((ps.take z1.length).map f).length := by simp; omega
  obtain ⟨e1, e2⟩ := List.append_inj h hl
  simp only [List.cons.injEq] at e2
  rw [List.map_append, List.map_cons, e1, e2.2, hx, e2.1, List.take_add_one, List.getElem?_eq_getElem hk, Option.toList_some, List.map_append, List.map_cons, List.map_nil, List.append_assoc, List.cons_append, List.nil_append]
theorem any_take {α : Type} (l : List α) (k : Nat) (x : α) (p : α → Bool) (h : l[k]? = some x) : (l.take (k + 1)).any p = ((l.take k).any p || p x) := by
  rw [List.take_add_one, h]; simp
/-- what is asked of an observer's watches -/
def OkO (fs : List Fl) (z : Ov) : Prop := FIn fs z.ws ∧ z.ws.length ≤ 100000 ∧ z.rs.length ≤ 100000 ∧ ∀ x ∈ z.ws, x.flt.length ≤ 100000
/-- the watches' targets are nodes -/
def TgO (S : Tr) (N : Nat) (z : Ov) : Prop := ∀ x ∈ z.ws, ∃ i, i ≤ N ∧ x.target = S.hd i
/-- so too, while records are being noted -/
def OkU (fs : List Fl) (z : Ov) : Prop := FIn fs z.ws ∧ z.ws.length ≤ 100000 ∧ z.rs.length ≤ 101000 ∧ ∀ x ∈ z.ws, x.flt.length ≤ 100000
theorem ok_up {S : Tr} {N : Nat} {fs : List Fl} {zs zs1 : List Oz} {c : Wb → Rc → Bool} {rs : List Rc} {m : Nat} (h1 : ∀ z ∈ zs, OkO fs z.1) (h2 : ∀ z ∈ zs, TgO S N z.1) (hl : rs.length ≤ 1000) (he : zs1.map pz = (zs.map pz).map (upL c (rs.take m))) :
    ∀ (k : Nat) (y : Op2), (zs1.map pz)[k]? = some y → TgO S N y.1 ∧ OkU fs y.1 := by
  intro k y hy
  rw [he] at hy
  obtain ⟨u, hu, rfl⟩ := List.mem_map.1 (List.mem_of_getElem? hy)
  obtain ⟨z, hz, rfl⟩ := List.mem_map.1 hu
  obtain ⟨f1, f2, f3, f4⟩ := h1 z hz
  refine ⟨h2 z hz, f1, f2, ?_, f4⟩
  have h3 := toldL_len c (z.1.ws.map Wt.bare) (rs.take m)
  have h4 : (rs.take m).length ≤ rs.length := by simp; omega
  simp only [upL, pz, List.length_append]
  omega
theorem ng_at {ps : List Op2} {f : Op2 → Op2} {z1 z2 : List Oz} {x : Oz} {k : Nat} (h : (z1 ++ x :: z2).map pz = (ps.take k).map f ++ ps.drop k) (hk : z1.length = k) : ps[k]? = some (pz x) := by
  have h1 : ((z1 ++ x :: z2).map pz)[k]? = ((ps.take k).map f ++ ps.drop k)[k]? := by rw [h]
  rw [List.map_append, List.map_cons, List.getElem?_append_right (by simp; omega)] at h1
  have h0 : k < ps.length := by
    have := congrArg List.length h
    simp only [List.length_map, List.length_append, List.length_take, List.length_drop, List.length_cons] at this
    omega
  rw [List.getElem?_append_right (by simp; omega)] at h1
  simp only [List.length_map, List.length_take, List.getElem?_drop] at h1
  rw [hk, Nat.sub_self, Nat.min_eq_left (Nat.le_of_lt h0), Nat.sub_self, Nat.add_zero] at h1
  simp only [List.getElem?_cons_zero] at h1
  exact h1.symm
/-- the objects, as long as Note runs -/
def NgO (g zg zn zc : Nat) (nx : Int) (zs : List Oz) (fs : List Fl) (R : Nat) (S : Tr) (sv fv v : Value) (rs : List Rc) (l : List Ob) : List Ob :=
  stF g (.slice (some ⟨zg, 0, none⟩) zn zc) nx zs ++ (fo fs :: trO R S sv fv :: rl v rs :: l)
/-- what lies ahead of an observer's records -/
def nl1 (x7 xs xo xw : Ob) (z1 : List Oz) : List Ob := x7 :: xs :: xo :: (obF z1 ++ [xw])
theorem nl1_eq (x7 : Ob) (g : Nat) (zv : Value) (nx : Int) (z1 : List Oz) (z : Ov) (a b : Value) (z2 : List Oz) (l : List Ob) : x7 :: (stF g zv nx (z1 ++ (z, a, b) :: z2) ++ l) =
    nl1 x7 (bk g [zv, .slice none 0 0, .int .i64 nx] 34) (sl 60 4 zv (z1 ++ (z, a, b) :: z2).length (rows encO (z1 ++ (z, a, b) :: z2))) (sl 58 7 a z.ws.length (rows encW z.ws)) z1 ++ (rl b z.rs :: (obF z2 ++ l)) := by
  simp [nl1, stF, obF]
theorem perm_x (x : Ob) (A C l : List Ob) (u v : Ob) : (x :: (A ++ (u :: v :: (C ++ l)))).Perm (A ++ (u :: v :: (C ++ (x :: l)))) := by
  have h : (x :: ((A ++ (u :: v :: C)) ++ l)).Perm ((A ++ (u :: v :: C)) ++ (x :: l)) := List.perm_middle.symm
  simpa using h
def NgR (B : Nat) (w0 : World) (c : Wb → Rc → Bool) (g zg zn zc : Nat) (nx : Int) (zs : List Oz) (fs : List Fl) (R : Nat) (S : Tr) (sv fv v : Value) (rs : List Rc) (l : List Ob) (iv : Value) (wr : World) : Prop :=
  ∃ (m : Nat) (zs' : List Oz), m ≤ rs.length ∧ iv = .int .i64 (m : Int) ∧ zs'.map pz = (zs.map pz).map (upL c (rs.take m)) ∧ All B w0 (NgO g zg zn zc nx zs' fs R S sv fv v rs l) wr
def Ng2 (B : Nat) (w0 : World) (c : Wb → Rc → Bool) (g zg zn zc : Nat) (nx : Int) (ps : List Op2) (fs : List Fl) (R : Nat) (S : Tr) (sv fv v : Value) (rs : List Rc) (l : List Ob) (r : Rc) (r7 : Nat) (iv : Value) (wr : World) : Prop :=
  ∃ (k : Nat) (zs' : List Oz), k ≤ ps.length ∧ iv = .int .i64 (k : Int) ∧ zs'.map pz = (ps.take k).map (upR c r) ++ ps.drop k ∧ All B w0 (bk r7 (encR r) 86 :: NgO g zg zn zc nx zs' fs R S sv fv v rs l) wr
def Ng3 (c : Wb → Rc → Bool) (ws : List Wt) (r : Rc) (wS : World) (cv ov iv : Value) (wr : World) : Prop :=
  ∃ j : Nat, j ≤ ws.length ∧ iv = .int .i64 (j : Int) ∧ cv = .bool ((ws.take j).any fun x => c x.bare r) ∧ ov = .bool ((ws.take j).any fun x => c x.bare r && x.old) ∧ Below wS.heap.size wS wr
theorem told_no {c : Wb → Rc → Bool} {ws : List Wt} {r : Rc} (h : (ws.any fun x => c x.bare r) = false) : toldR c (ws.map Wt.bare) r = [] := by
  unfold toldR
  rw [List.any_map]
  rw [if_neg]
  rw [show ((fun x => c x r) ∘ Wt.bare) = (fun x : Wt => c x.bare r) from rfl, h]
  decide
theorem told_yes {c : Wb → Rc → Bool} {ws : List Wt} {r : Rc} {o : Bool} (h : (ws.any fun x => c x.bare r) = true) (h2 : (ws.any fun x => c x.bare r && x.old) = o) : toldR c (ws.map Wt.bare) r = [if o = true then r else { r with old := [] }] := by
  unfold toldR
  rw [List.any_map, List.any_map]
  rw [show ((fun x => c x r) ∘ Wt.bare) = (fun x : Wt => c x.bare r) from rfl, h]
  rw [show ((fun x => c x r && x.old) ∘ Wt.bare) = (fun x : Wt => c x.bare r && x.old) from rfl, h2]
  simp

set_option maxRecDepth 100000 in
set_option maxHeartbeats 16000000 in
theorem note_any {B : Nat} {w0 w : World} {g zg zc : Nat} {nx : Int} {zs : List Oz} {fs : List Fl} {R : Nat} {S : Tr} {sv fv v : Value} {N : Nat} {K : Nat → List Nat} {d : Nat → Nat} {rs : List Rc} {l : List Ob} (hD : Dc S K d N) (h : All B w0 (NgO g zg zs.length zc nx zs fs R S sv fv v rs l) w)
    (hgood : ∀ r ∈ rs, Good S N r) (hok : ∀ z ∈ zs, OkO fs z.1) (htg : rs ≠ [] → ∀ z ∈ zs, TgO S N z.1) (hl1 : rs.length ≤ 1000) (hl2 : zs.length ≤ 1000) :
    Calls Tryz.prog 9 #[.pointer (some ⟨g, 0, none⟩), .pointer (some ⟨R, 0, none⟩), v] w fun e w' => ∃ zs', e = .returned (.tuple #[]) ∧ zs'.map pz = (zs.map pz).map (upL (covB S d N) rs) ∧ All B w0 (NgO g zg zs.length zc nx zs' fs R S sv fv v rs l) w' := by
  have hv : Own w _ _ _ _ _ := h.P (rl v rs) (by simp [NgO])
  obtain ⟨va, vc, rfl⟩ := own_shape hv
  have H := Lib.hid h
  have HG := Lib.hid hgood
  have HOk := Lib.hid hok
  have HTg := Lib.hid htg
  have HD := Lib.hid hD
  generalize hzn : zs.length = zn at *
  have HZn := Lib.hid hzn
  clear h hv hgood hok htg hD hzn
  go_enter Tryz.func9, Tryz.ntmps9
  go_wp2_with fail
  go_loopw [17] (fun iv wr => NgR B w0 (covB S d N) g zg zn zc nx zs fs R S sv fv (.slice va rs.length vc) rs l iv wr) (fun iv _ => rs.length - (intOf iv).toNat)
  case atStart => exact ⟨0, zs, Nat.zero_le _, rfl, by rw [List.take_zero, upL_nil], H.out⟩
  case round =>
    obtain ⟨m, zs1, hm, rfl, hmap, hA⟩ := hrel
    by_cases hml : m < rs.length
    · obtain ⟨r, hr⟩ : ∃ r, rs[m]? = some r := ⟨_, List.getElem?_eq_getElem hml⟩
      have hv : Own wr _ _ _ _ _ := hA.P (rl (.slice va rs.length vc) rs) (by simp [NgO])
      obtain ⟨vg, vc', he, _⟩ := own_some hv (by omega)
      simp only [Value.slice.injEq] at he
      obtain ⟨rfl, _, rfl⟩ := he
      have hq : ∀ j, j < 11 → wr.cell? ⟨vg, m * 11 + j, none⟩ = (encR r)[j]? := fun j hj => by
        rw [hv.cellAt (m * 11 + j) (by omega)]
        exact rows_at (enc := encR) encR_len rs m r hr j hj
      have q0 := hq 0 (by omega)
      have q1 := hq 1 (by omega)
      have q2 := hq 2 (by omega)
      have q3 := hq 3 (by omega)
      have q4 := hq 4 (by omega)
      have q5 := hq 5 (by omega)
      have q6 := hq 6 (by omega)
      have q7 := hq 7 (by omega)
      have q8 := hq 8 (by omega)
      have q9 := hq 9 (by omega)
      have q10 := hq 10 (by omega)
      have HGr := Lib.hid (HG.out r (List.mem_of_getElem? hr))
      have HTr := Lib.hid (HTg.out (by rintro rfl; simp at hml))
      have HRr := Lib.hid hr
      have HMap := Lib.hid hmap
      have hnw := hA.newBkA wr.heap.size rfl (encR r) 86
      simp only [encR, recC, strV, List.getElem?_cons_zero, List.getElem?_cons_succ, Nat.add_zero] at q0 q1 q2 q3 q4 q5 q6 q7 q8 q9 q10
      have hst : Blk _ _ _ _ := (show All B w0 (bk wr.heap.size (encR r) 86 :: bk g [.slice (some ⟨zg, 0, none⟩) zn zc, .slice none 0 0, .int .i64 nx] 34 :: _) _ from hnw).tail.head
      have g0 := hst.cell 0
      simp only [List.getElem?_cons_zero] at g0
      have HN := Lib.hid hnw
      clear hq hv hA hnw hr hst hmap
      go_upto_region 3 with fail
      clear q0 q1 q2 q3 q4 q5 q6 q7 q8 q9 q10
      simp only [encR, recC, strV] at HN g0
      generalize hr7 : wr.heap.size = r7 at *
      have HN1 := Lib.hid HN.out
      generalize wr.alloc (.cells #[.int .i64 r.kind, .int .i64 r.target, .int .i64 r.node, .int .i64 r.prev, .int .i64 r.next, .int .i64 r.index, .string ⟨r.name.toArray⟩, .string ⟨r.old.toArray⟩, .bool r.had, .int .i64 r.count, .int .i64 r.size] 86) = w1 at *
      change Hid (All B w0 (bk r7 _ _ :: _) w1) at HN1
      have g1 : w1.cell? ⟨g, 0, none⟩ = some (.slice (some ⟨zg, 0, none⟩) zn zc) := by
        have hst : Blk _ _ _ _ := (show All B w0 (_ :: bk g [.slice (some ⟨zg, 0, none⟩) zn zc, .slice none 0 0, .int .i64 nx] 34 :: _) _ from HN1.out).tail.head
        exact hst.cell 0
      clear HN g0
      have hzn1 : zs1.length = zn := by
        have := congrArg List.length HMap.out
        simp only [List.length_map] at this
        rw [this, HZn.out]
      have HZn1 := Lib.hid hzn1
      have hpl : (zs1.map pz).length = zn := by rw [List.length_map, hzn1]
      have HPl := Lib.hid hpl
      have HOk1 := Lib.hid (ok_up HOk.out HTr.out hl1 HMap.out)
      generalize hps : zs1.map pz = ps at *
      have HPs := Lib.hid hps
      clear hzn1 hpl hps
      go_wp2_with fail
      go_loopw [26] (fun iv wr2 => Ng2 B w0 (covB S d N) g zg zn zc nx ps fs R S sv fv (.slice (some ⟨vg, 0, none⟩) rs.length vc) rs l r r7 iv wr2) (fun iv _ => zn - (intOf iv).toNat)
      case atStart => exact ⟨0, zs1, Nat.zero_le _, rfl, by rw [HPs.out]; rfl, HN1.out⟩
      case round =>
        obtain ⟨k, zs2, hk, rfl, hmp2, hA⟩ := hrel
        have hl22 : zs2.length = zn := by
          have := congrArg List.length hmp2
          simp only [List.length_map, List.length_append, List.length_take, List.length_drop] at this
          rw [HPl.out] at this hk
          omega
        by_cases hkl : k < zn
        · obtain ⟨z1, ⟨z, a, b⟩, z2, rfl, hzk⟩ : ∃ z1 x z2, zs2 = z1 ++ x :: z2 ∧ z1.length = k := by
            obtain ⟨x, hx⟩ : ∃ x, zs2[k]? = some x := ⟨_, List.getElem?_eq_getElem (by omega)⟩
            obtain ⟨z1, z2, e1, e2⟩ := split_at hx
            exact ⟨z1, x, z2, e1, e2⟩
          have hA' : All B w0 (bk r7 (encR r) 86 :: (stF g (.slice (some ⟨zg, 0, none⟩) zn zc) nx (z1 ++ (z, a, b) :: z2) ++ (fo fs :: trO R S sv fv :: rl (.slice (some ⟨vg, 0, none⟩) rs.length vc) rs :: l))) wr := hA
          have hokz : TgO S N z ∧ OkU fs z := HOk1.out k (z, a) (ng_at hmp2 hzk)
          have HOkz := Lib.hid hokz
          have k7 : Blk _ _ _ _ := hA'.head
          have hA2 := hA'.tail
          rw [← hl22] at hA2
          obtain ⟨⟨_, _, o2, _⟩, _, _, g2, _, hwo, _⟩ := om_cellsF hA2
          rw [hl22] at g2
          rw [hzk] at o2
          obtain ⟨aa, ac, rfl⟩ := own_shape hwo
          have hT : TAt 0 R S sv fv _ := hA'.P (trO R S sv fv) (by simp)
          have hF : (fo fs).P _ := hA'.P (fo fs) (by simp)
          have HT := Lib.hid hT
          have HFo := Lib.hid hF
          have HK7 := Lib.hid k7
          have HWo := Lib.hid hwo
          have HA := Lib.hid hA'
          have HM2 := Lib.hid hmp2
          have HZk := Lib.hid hzk
          have HL2 := Lib.hid hl22
          have hwl := hokz.2.2.1
          clear hA hA' hA2 k7 hwo hT hF hmp2 hzk hl22 hokz
          generalize wr = w2s at *
          go_wp2_with fail
          go_loopw [10, 11, 40] (fun cv ov iv wr3 => Ng3 (covB S d N) z.ws r w2s cv ov iv wr3) (fun _ _ iv _ => z.ws.length - (intOf iv).toNat)
          case atStart => exact ⟨0, Nat.zero_le _, rfl, rfl, rfl, Below.refl _ _⟩
          case round =>
            obtain ⟨j, hj, rfl, rfl, rfl, hB⟩ := hrel
            by_cases hjl : j < z.ws.length
            · obtain ⟨x, hx⟩ : ∃ x, z.ws[j]? = some x := ⟨_, List.getElem?_eq_getElem hjl⟩
              have hxm := List.mem_of_getElem? hx
              have hO := own_below HWo.out hB
              obtain ⟨ag, ac', he, _⟩ := own_some hO (by omega)
              simp only [Value.slice.injEq] at he
              obtain ⟨rfl, _, rfl⟩ := he
              have hq : ∀ j', j' < 7 → wr.cell? ⟨ag, j * 7 + j', none⟩ = (encW x)[j']? := fun j' hj' => by
                rw [hO.cellAt (j * 7 + j') (by omega)]
                exact rows_at (enc := encW) encW_len z.ws j x hx j' hj'
              have q0 := hq 0 (by omega)
              have q1 := hq 1 (by omega)
              have q2 := hq 2 (by omega)
              have q3 := hq 3 (by omega)
              have q4 := hq 4 (by omega)
              have q5 := hq 5 (by omega)
              have q6 := hq 6 (by omega)
              have hfl : FltAt w2s x := HFo.out _ (HOkz.out.2.1 x hxm)
              have hfs := own_shape hfl
              obtain ⟨fa, fc, hfv⟩ := hfs
              simp only [encW, hfv, List.getElem?_cons_zero, List.getElem?_cons_succ, Nat.add_zero] at q0 q1 q2 q3 q4 q5 q6
              have k7 := HK7.out.below hB
              have p0 := k7.cell 0
              have p1 := k7.cell 1
              have p2 := k7.cell 2
              have p3 := k7.cell 3
              have p4 := k7.cell 4
              have p5 := k7.cell 5
              have p6 := k7.cell 6
              have p7 := k7.cell 7
              have p8 := k7.cell 8
              have p9 := k7.cell 9
              have p10 := k7.cell 10
              simp only [encR, recC, strV, List.getElem?_cons_zero, List.getElem?_cons_succ] at p0 p1 p2 p3 p4 p5 p6 p7 p8 p9 p10
              have hr7l := k7.lt
              have hba : Below w2s.heap.size w2s (wr.alloc (.cells #[.int .i64 x.target, .bool x.kids, .bool x.attrs, .bool x.data, .bool x.sub, .bool x.old, .slice fa x.flt.length fc] 58)) := hB.alloc hB.size _
              have HCf := Lib.hid (covers_any HD.out (HT.out.below hba) x (HOkz.out.1 x hxm) r HGr.out (own_below hfl hba) (HOkz.out.2.2.2.2 x hxm))
              simp only [encR, recC, strV, encW, hfv] at HCf
              have HX1 := Lib.hid (any_take z.ws j x (fun x => covB S d N x.bare r) hx)
              have HX2 := Lib.hid (any_take z.ws j x (fun x => covB S d N x.bare r && x.old) hx)
              generalize covB S d N x.bare r = cc at *
              generalize ((z.ws.take j).any fun x => covB S d N x.bare r) = cv at *
              generalize ((z.ws.take j).any fun x => covB S d N x.bare r && x.old) = ov at *
              clear hO hx hxm hq k7 hfl
              go_wp2_with fail
              have k13 : Blk (wr.alloc (.cells #[.int .i64 x.target, .bool x.kids, .bool x.attrs, .bool x.data, .bool x.sub, .bool x.old, .slice fa x.flt.length fc] 58)) wr.heap.size [.int .i64 x.target, .bool x.kids, .bool x.attrs, .bool x.data, .bool x.sub, .bool x.old, .slice fa x.flt.length fc] 58 := Blk.new wr _ _
              have HK13 := Lib.hid k13
              clear k13 p0 p1 p2 p3 p4 p5 p6 p7 p8 p9 p10 q0 q1 q2 q3 q4 q5 q6
              refine HCf.out.mono ?_
              rintro e w5 ⟨rfl, hb5⟩
              have hB5 := hba.trans (hb5.mono hba.size)
              have k5 := (HK13.out.below hb5).cell 5
              simp only [List.getElem?_cons_zero, List.getElem?_cons_succ] at k5
              have HB5 := Lib.hid hB5
              clear HCf HK13 hba hb5 hB5 hfv
              cases cc
              · go_wp2_with fail
                exact ⟨⟨j + 1, by omega, by go_num, by rw [HX1.out]; simp, by rw [HX2.out]; simp, HB5.out⟩, by simp [intOf]; omega⟩
              · cases ov
                · go_wp2_with fail
                  exact ⟨⟨j + 1, by omega, by go_num, by rw [HX1.out]; simp, by rw [HX2.out]; simp, HB5.out⟩, by simp [intOf]; omega⟩
                · go_wp2_with fail
                  exact ⟨⟨j + 1, by omega, by go_num, by rw [HX1.out]; simp, by rw [HX2.out]; simp, HB5.out⟩, by simp [intOf]; omega⟩
            · obtain rfl : j = z.ws.length := by omega
              rw [List.take_length]
              have k7 := HK7.out.below hB
              have p0 := k7.cell 0
              have p1 := k7.cell 1
              have p2 := k7.cell 2
              have p3 := k7.cell 3
              have p4 := k7.cell 4
              have p5 := k7.cell 5
              have p6 := k7.cell 6
              have p7 := k7.cell 7
              have p8 := k7.cell 8
              have p9 := k7.cell 9
              have p10 := k7.cell 10
              simp only [encR, recC, strV, List.getElem?_cons_zero, List.getElem?_cons_succ] at p0 p1 p2 p3 p4 p5 p6 p7 p8 p9 p10
              generalize hcv : (z.ws.any fun x => covB S d N x.bare r) = cv at *
              generalize hov : (z.ws.any fun x => covB S d N x.bare r && x.old) = ov at *
              have HCv := Lib.hid hcv
              have HOv := Lib.hid hov
              clear k7 hcv hov
              cases cv
              · clear p0 p1 p2 p3 p4 p5 p6 p7 p8 p9 p10
                have HBl := Lib.hid hB
                go_wp2_with fail
                refine ⟨⟨k + 1, z1 ++ (z, .slice aa z.ws.length ac, b) :: z2, by rw [HPl.out]; omega, by go_num, ?_, HA.out.still HBl.out⟩, by simp [intOf]; omega⟩
                have h1 := HM2.out
                have h2 := HZk.out
                subst h2
                exact ng_step _ h1 (by unfold pz upR; simp only []; rw [told_no HCv.out, List.append_nil])
              · cases ov
                · go_upto_region 19 with fail
                  have hA6 := (HA.out.still hB).alloc (.cells #[.int .i64 r.kind, .int .i64 r.target, .int .i64 r.node, .int .i64 r.prev, .int .i64 r.next, .int .i64 r.index, .string ⟨r.name.toArray⟩, .string ⟨([] : List UInt8).toArray⟩, .bool r.had, .int .i64 r.count, .int .i64 r.size] 86)
                  have k14 : Blk (wr.alloc (.cells #[.int .i64 r.kind, .int .i64 r.target, .int .i64 r.node, .int .i64 r.prev, .int .i64 r.next, .int .i64 r.index, .string ⟨r.name.toArray⟩, .string ⟨([] : List UInt8).toArray⟩, .bool r.had, .int .i64 r.count, .int .i64 r.size] 86)) wr.heap.size [.int .i64 r.kind, .int .i64 r.target, .int .i64 r.node, .int .i64 r.prev, .int .i64 r.next, .int .i64 r.index, .string ⟨r.name.toArray⟩, .string ⟨([] : List UInt8).toArray⟩, .bool r.had, .int .i64 r.count, .int .i64 r.size] 86 := Blk.new wr _ _
                  clear p0 p1 p2 p3 p4 p5 p6 p7 p8 p9 p10
                  generalize hr14 : wr.heap.size = r14 at *
                  generalize wr.alloc (.cells #[.int .i64 r.kind, .int .i64 r.target, .int .i64 r.node, .int .i64 r.prev, .int .i64 r.next, .int .i64 r.index, .string ⟨r.name.toArray⟩, .string ⟨([] : List UInt8).toArray⟩, .bool r.had, .int .i64 r.count, .int .i64 r.size] 86) = w6 at *
                  have p0 := k14.cell 0
                  have p1 := k14.cell 1
                  have p2 := k14.cell 2
                  have p3 := k14.cell 3
                  have p4 := k14.cell 4
                  have p5 := k14.cell 5
                  have p6 := k14.cell 6
                  have p7 := k14.cell 7
                  have p8 := k14.cell 8
                  have p9 := k14.cell 9
                  have p10 := k14.cell 10
                  simp only [List.getElem?_cons_zero, List.getElem?_cons_succ] at p0 p1 p2 p3 p4 p5 p6 p7 p8 p9 p10
                  have hA62 := hA6.tail
                  rw [← HL2.out] at hA62
                  obtain ⟨⟨_, _, _, o3⟩, _, hzl, _, _, _, hrl⟩ := om_cellsF hA62
                  rw [HZk.out] at o3
                  obtain ⟨ba, bc, rfl⟩ := own_shape hrl
                  have hzr : z.rs.length ≤ 101000 := HOkz.out.2.2.2.1
                  have ea : ∀ o, (w6.alloc o).cell? ⟨zg, k * 4 + 3, none⟩ = some (.slice ba z.rs.length bc) := fun o => (World.cell?_alloc_lt _ _ _ hzl).trans o3
                  have hA63 := hA6
                  rw [nl1_eq] at hA63
                  have T1 := Lib.hid ((hA63.alloc (.cells #[.int .i64 r.kind, .int .i64 r.target, .int .i64 r.node, .int .i64 r.prev, .int .i64 r.next, .int .i64 r.index, .string ⟨r.name.toArray⟩, .string ⟨([] : List UInt8).toArray⟩, .bool r.had, .int .i64 r.count, .int .i64 r.size] 86)).drew)
                  have T2 := Lib.hid (own_at (w := (w6.alloc (.cells #[.int .i64 r.kind, .int .i64 r.target, .int .i64 r.node, .int .i64 r.prev, .int .i64 r.next, .int .i64 r.index, .string ⟨r.name.toArray⟩, .string ⟨([] : List UInt8).toArray⟩, .bool r.had, .int .i64 r.count, .int .i64 r.size] 86)).drew) (g := w6.heap.size) (n := 1) (size := 11) (show Blk _ _ _ _ from Blk.new w6 [.int .i64 r.kind, .int .i64 r.target, .int .i64 r.node, .int .i64 r.prev, .int .i64 r.next, .int .i64 r.index, .string ⟨r.name.toArray⟩, .string ⟨([] : List UInt8).toArray⟩, .bool r.had, .int .i64 r.count, .int .i64 r.size] 86) rfl (by omega))
                  have T3 := Lib.hid (encR_one ({ r with old := [] }))
                  simp only [encR, recC, strV] at T3
                  have R3 := Lib.hid (show (rows encO (z1 ++ (z, Value.slice aa z.ws.length ac, Value.slice ba z.rs.length bc) :: z2))[k * 4 + 3]? = some (.slice ba z.rs.length bc) from by
                    have := rows_at (enc := encO) encO_len _ z1.length (z, Value.slice aa z.ws.length ac, Value.slice ba z.rs.length bc) (get_mid z1 (z, Value.slice aa z.ws.length ac, Value.slice ba z.rs.length bc) z2) 3 (by decide)
                    rw [HZk.out] at this
                    exact this)
                  have hkN := Lib.hid (show k * 4 + 3 < zn * 4 from by omega)
                  clear hA6 hA62 hA63 hrl k14
                  go_region_law (refine step_append_all etR (nl1 _ _ _ _ z1) T1.out T2.out T3.out (by omega) (by omega) (by rfl) _ _ (by rfl) (by rfl) (by rfl) ?_; intro v' w7 hA7; have ho : Own _ _ _ _ _ _ := hA7.P (sl 86 11 v' (z.rs.length + 1) (rows encR z.rs ++ [.int .i64 r.kind, .int .i64 r.target, .int .i64 r.node, .int .i64 r.prev, .int .i64 r.next, .int .i64 r.index, .string ⟨r.name.toArray⟩, .string ⟨([] : List UInt8).toArray⟩, .bool r.had, .int .i64 r.count, .int .i64 r.size])) (by simp); obtain ⟨va, vc2, rfl⟩ := own_shape ho; have hr5 : Own _ _ _ _ _ _ := hA7.tail.tail.head; rw [HL2.out] at hr5; have d1 := hr5.cellAt (k * 4 + 3) hkN.out; rw [R3.out] at d1; have df := hr5.frozenAt (k * 4 + 3); have HB7 := Lib.hid hA7; clear hA7 ho hr5)
                  all_goals
                    go_wp2_with fail
                    refine ⟨⟨k + 1, z1 ++ ({ z with rs := z.rs ++ [({ r with old := [] })] }, .slice aa z.ws.length ac, .slice va (z.rs.length + 1) vc2) :: z2, by rw [HPl.out]; omega, by go_num, ?_, ?_⟩, by simp [intOf]; omega⟩
                    · have h1 := HM2.out
                      have h2 := HZk.out
                      subst h2
                      exact ng_step _ h1 (by unfold pz upR; simp only []; rw [told_yes HCv.out HOv.out]; rfl)
                    · have e1 : rows encR (z.rs ++ [({ r with old := [] })]) = rows encR z.rs ++ [.int .i64 r.kind, .int .i64 r.target, .int .i64 r.node, .int .i64 r.prev, .int .i64 r.next, .int .i64 r.index, .string ⟨r.name.toArray⟩, .string ⟨([] : List UInt8).toArray⟩, .bool r.had, .int .i64 r.count, .int .i64 r.size] := rows_snoc _ _
                      have e2 : (z.rs ++ [({ r with old := [] })]).length = z.rs.length + 1 := by simp
                      have h9 := HB7.out
                      generalize Value.slice va (z.rs.length + 1) vc2 = V at h9 ⊢
                      rw [← e1, ← e2] at h9
                      unfold nl1 at h9
                      simp only [List.cons_append, List.append_assoc, List.nil_append] at h9
                      have h10 := h9.perm (perm_x _ ([_, _] ++ obF z1) (obF z2) _ _ _)
                      rw [HL2.out] at h10
                      have h2 := HZk.out
                      subst h2
                      exact (om_set3F (N := zn) (z := z) (z' := { z with rs := z.rs ++ [({ r with old := [] })] }) (b := .slice ba z.rs.length bc) h10 HL2.out rfl rfl).perm List.perm_middle
                · go_upto_region 19 with fail
                  have hA6 := (HA.out.still hB).alloc (.cells #[.int .i64 r.kind, .int .i64 r.target, .int .i64 r.node, .int .i64 r.prev, .int .i64 r.next, .int .i64 r.index, .string ⟨r.name.toArray⟩, .string ⟨r.old.toArray⟩, .bool r.had, .int .i64 r.count, .int .i64 r.size] 86)
                  have k14 : Blk (wr.alloc (.cells #[.int .i64 r.kind, .int .i64 r.target, .int .i64 r.node, .int .i64 r.prev, .int .i64 r.next, .int .i64 r.index, .string ⟨r.name.toArray⟩, .string ⟨r.old.toArray⟩, .bool r.had, .int .i64 r.count, .int .i64 r.size] 86)) wr.heap.size [.int .i64 r.kind, .int .i64 r.target, .int .i64 r.node, .int .i64 r.prev, .int .i64 r.next, .int .i64 r.index, .string ⟨r.name.toArray⟩, .string ⟨r.old.toArray⟩, .bool r.had, .int .i64 r.count, .int .i64 r.size] 86 := Blk.new wr _ _
                  clear p0 p1 p2 p3 p4 p5 p6 p7 p8 p9 p10
                  generalize hr14 : wr.heap.size = r14 at *
                  generalize wr.alloc (.cells #[.int .i64 r.kind, .int .i64 r.target, .int .i64 r.node, .int .i64 r.prev, .int .i64 r.next, .int .i64 r.index, .string ⟨r.name.toArray⟩, .string ⟨r.old.toArray⟩, .bool r.had, .int .i64 r.count, .int .i64 r.size] 86) = w6 at *
                  have p0 := k14.cell 0
                  have p1 := k14.cell 1
                  have p2 := k14.cell 2
                  have p3 := k14.cell 3
                  have p4 := k14.cell 4
                  have p5 := k14.cell 5
                  have p6 := k14.cell 6
                  have p7 := k14.cell 7
                  have p8 := k14.cell 8
                  have p9 := k14.cell 9
                  have p10 := k14.cell 10
                  simp only [List.getElem?_cons_zero, List.getElem?_cons_succ] at p0 p1 p2 p3 p4 p5 p6 p7 p8 p9 p10
                  have hA62 := hA6.tail
                  rw [← HL2.out] at hA62
                  obtain ⟨⟨_, _, _, o3⟩, _, hzl, _, _, _, hrl⟩ := om_cellsF hA62
                  rw [HZk.out] at o3
                  obtain ⟨ba, bc, rfl⟩ := own_shape hrl
                  have hzr : z.rs.length ≤ 101000 := HOkz.out.2.2.2.1
                  have ea : ∀ o, (w6.alloc o).cell? ⟨zg, k * 4 + 3, none⟩ = some (.slice ba z.rs.length bc) := fun o => (World.cell?_alloc_lt _ _ _ hzl).trans o3
                  have hA63 := hA6
                  rw [nl1_eq] at hA63
                  have T1 := Lib.hid ((hA63.alloc (.cells #[.int .i64 r.kind, .int .i64 r.target, .int .i64 r.node, .int .i64 r.prev, .int .i64 r.next, .int .i64 r.index, .string ⟨r.name.toArray⟩, .string ⟨r.old.toArray⟩, .bool r.had, .int .i64 r.count, .int .i64 r.size] 86)).drew)
                  have T2 := Lib.hid (own_at (w := (w6.alloc (.cells #[.int .i64 r.kind, .int .i64 r.target, .int .i64 r.node, .int .i64 r.prev, .int .i64 r.next, .int .i64 r.index, .string ⟨r.name.toArray⟩, .string ⟨r.old.toArray⟩, .bool r.had, .int .i64 r.count, .int .i64 r.size] 86)).drew) (g := w6.heap.size) (n := 1) (size := 11) (show Blk _ _ _ _ from Blk.new w6 [.int .i64 r.kind, .int .i64 r.target, .int .i64 r.node, .int .i64 r.prev, .int .i64 r.next, .int .i64 r.index, .string ⟨r.name.toArray⟩, .string ⟨r.old.toArray⟩, .bool r.had, .int .i64 r.count, .int .i64 r.size] 86) rfl (by omega))
                  have T3 := Lib.hid (encR_one (r))
                  simp only [encR, recC, strV] at T3
                  have R3 := Lib.hid (show (rows encO (z1 ++ (z, Value.slice aa z.ws.length ac, Value.slice ba z.rs.length bc) :: z2))[k * 4 + 3]? = some (.slice ba z.rs.length bc) from by
                    have := rows_at (enc := encO) encO_len _ z1.length (z, Value.slice aa z.ws.length ac, Value.slice ba z.rs.length bc) (get_mid z1 (z, Value.slice aa z.ws.length ac, Value.slice ba z.rs.length bc) z2) 3 (by decide)
                    rw [HZk.out] at this
                    exact this)
                  have hkN := Lib.hid (show k * 4 + 3 < zn * 4 from by omega)
                  clear hA6 hA62 hA63 hrl k14
                  go_region_law (refine step_append_all etR (nl1 _ _ _ _ z1) T1.out T2.out T3.out (by omega) (by omega) (by rfl) _ _ (by rfl) (by rfl) (by rfl) ?_; intro v' w7 hA7; have ho : Own _ _ _ _ _ _ := hA7.P (sl 86 11 v' (z.rs.length + 1) (rows encR z.rs ++ [.int .i64 r.kind, .int .i64 r.target, .int .i64 r.node, .int .i64 r.prev, .int .i64 r.next, .int .i64 r.index, .string ⟨r.name.toArray⟩, .string ⟨r.old.toArray⟩, .bool r.had, .int .i64 r.count, .int .i64 r.size])) (by simp); obtain ⟨va, vc2, rfl⟩ := own_shape ho; have hr5 : Own _ _ _ _ _ _ := hA7.tail.tail.head; rw [HL2.out] at hr5; have d1 := hr5.cellAt (k * 4 + 3) hkN.out; rw [R3.out] at d1; have df := hr5.frozenAt (k * 4 + 3); have HB7 := Lib.hid hA7; clear hA7 ho hr5)
                  all_goals
                    go_wp2_with fail
                    refine ⟨⟨k + 1, z1 ++ ({ z with rs := z.rs ++ [(r)] }, .slice aa z.ws.length ac, .slice va (z.rs.length + 1) vc2) :: z2, by rw [HPl.out]; omega, by go_num, ?_, ?_⟩, by simp [intOf]; omega⟩
                    · have h1 := HM2.out
                      have h2 := HZk.out
                      subst h2
                      exact ng_step _ h1 (by unfold pz upR; simp only []; rw [told_yes HCv.out HOv.out]; rfl)
                    · have e1 : rows encR (z.rs ++ [(r)]) = rows encR z.rs ++ [.int .i64 r.kind, .int .i64 r.target, .int .i64 r.node, .int .i64 r.prev, .int .i64 r.next, .int .i64 r.index, .string ⟨r.name.toArray⟩, .string ⟨r.old.toArray⟩, .bool r.had, .int .i64 r.count, .int .i64 r.size] := rows_snoc _ _
                      have e2 : (z.rs ++ [(r)]).length = z.rs.length + 1 := by simp
                      have h9 := HB7.out
                      generalize Value.slice va (z.rs.length + 1) vc2 = V at h9 ⊢
                      rw [← e1, ← e2] at h9
                      unfold nl1 at h9
                      simp only [List.cons_append, List.append_assoc, List.nil_append] at h9
                      have h10 := h9.perm (perm_x _ ([_, _] ++ obF z1) (obF z2) _ _ _)
                      rw [HL2.out] at h10
                      have h2 := HZk.out
                      subst h2
                      exact (om_set3F (N := zn) (z := z) (z' := { z with rs := z.rs ++ [(r)] }) (b := .slice ba z.rs.length bc) h10 HL2.out rfl rfl).perm List.perm_middle
        · obtain rfl : k = zn := by rw [HPl.out] at hk; omega
          have HM2 := Lib.hid hmp2
          have HA := Lib.hid hA
          clear g1 hmp2 hA hl22
          go_wp2_with fail
          refine ⟨⟨m + 1, zs2, by omega, by go_num, ?_, HA.out.tail⟩, by simp [intOf]; omega⟩
          have h1 := HM2.out
          rw [List.take_of_length_le (by rw [HPl.out]; exact Nat.le_refl _), List.drop_of_length_le (by rw [HPl.out]; exact Nat.le_refl _), List.append_nil, HMap.out, upL_snoc] at h1
          rw [h1, List.take_add_one, HRr.out]
          rfl
    · obtain rfl : m = rs.length := by omega
      rw [List.take_length] at hmap
      have HA := Lib.hid hA
      have HM := Lib.hid hmap
      clear hA hmap
      go_wp2_with fail
      go_end0
      exact ⟨zs1, rfl, HM.out, HA.out⟩
end Go.Proofs.YtfdofkokiaapoaaGreatDoor.W
end
section
/- The contract of Make for an element with a one-letter name and no attributes. -/
namespace Go.Proofs.YtfdofkokiaapoaaGreatDoor.W
open Go.RowKit
set_option linter.unusedVariables false
set_option linter.unusedSimpArgs false

set_option maxRecDepth 100000 in
set_option maxHeartbeats 4000000 in
theorem make_one {B R : Nat} {S : Tr} {sv fv : Value} {w : World} (h : TAt B R S sv fv w) (hf : S.free = []) (hl : S.slots.length < 20000) (c : UInt8) (hc : Ltr c) :
    Calls Tryz.prog 22 #[.pointer (some ⟨R, 0, none⟩), .int .i64 2, .string ⟨#[c]⟩, .string ⟨#[]⟩, .slice none 0 0] w fun e w' => ∃ sv', e = .returned (.tuple #[.int .i64 (S.hd S.slots.length), .int .i64 0]) ∧
      TAt B R (S.snoc (newN 2 [c])) sv' fv w' ∧ Chg (fun k => k = R ∨ sv.ownBlock = some k) w w' ∧ (sv'.ownBlock = sv.ownBlock ∨ ∃ k, sv'.ownBlock = some k ∧ w.heap.size ≤ k) := by
  have HE := Lib.hid (elementName_one c hc)
  have HT := Lib.hid h
  have hlv : S.live ≤ S.slots.length := List.length_filter_le _ _
  have hlt := h.blk.lt
  clear h hc
  go_enter Tryz.func22, Tryz.ntmps22
  go_wp2_with fail
  have hb0 := (Below.refl w.heap.size w).alloc (Nat.le_refl _) (.cells #[.int .i64 2, .string ⟨#[]⟩, .slice none 0 0, .string ⟨#[]⟩, .int .i64 0, .int .i64 0, .int .i64 0, .int .i64 0, .int .i64 0] 113)
  have hx0 := Blk.new w [.int .i64 2, .string ⟨#[]⟩, .slice none 0 0, .string ⟨#[]⟩, .int .i64 0, .int .i64 0, .int .i64 0, .int .i64 0, .int .i64 0] 113
  have HB0 := Lib.hid hb0
  have HX0 := Lib.hid (show Blk (w.alloc (.cells #[.int .i64 2, .string ⟨#[]⟩, .slice none 0 0, .string ⟨#[]⟩, .int .i64 0, .int .i64 0, .int .i64 0, .int .i64 0, .int .i64 0] 113)) _ _ _ from hx0)
  clear hb0 hx0
  generalize w.alloc (.cells #[.int .i64 2, .string ⟨#[]⟩, .slice none 0 0, .string ⟨#[]⟩, .int .i64 0, .int .i64 0, .int .i64 0, .int .i64 0, .int .i64 0] 113) = w1 at *
  refine (HE.out _).mono ?_
  rintro e w2 ⟨rfl, hb2⟩
  go_wp2_with fail
  refine (attrs_nil _).mono ?_
  rintro e w3 ⟨rfl, hb3⟩
  have hb13 := bthen hb2 hb3
  have hx3 := HX0.out.below hb13
  have c1 := hx3.cell 1
  simp only [List.getElem?_cons_succ, List.getElem?_cons_zero] at c1
  have f1 := hx3.free 1
  have HX3 := Lib.hid (hx3.set 1 (.string ⟨#[c]⟩))
  have hB3 := HB0.out.trans (hb13.mono HB0.out.size)
  have hB4 := hB3.setCell (p := ⟨w.heap.size, 1, none⟩) (Nat.le_refl _) (.string ⟨#[c]⟩)
  have HB4 := Lib.hid hB4
  clear hx3 hb2 hb3 hb13 hB3 hB4
  go_upto_region 8 with fail
  clear c1 f1
  generalize w3.setCell ⟨w.heap.size, 1, none⟩ (.string ⟨#[c]⟩) = w4 at *
  go_wp2_with fail
  go_loopw [32] (fun iv wr => iv = .int .i64 0 ∧ wr = w4) (fun _ _ => 0)
  case atStart => exact ⟨rfl, rfl⟩
  case round =>
    obtain ⟨rfl, rfl⟩ := hrel
    have hT4 := HT.out.below HB4.out
    have HL := Lib.hid (len_any hT4)
    have x2 := HX3.out.cell 2
    have x3 := HX3.out.cell 3
    simp only [List.set_cons_succ, List.set_cons_zero, List.getElem?_cons_succ, List.getElem?_cons_zero] at x2 x3
    have HT4 := Lib.hid hT4
    clear hT4
    have d1 : decide ((20000 : Int) ≤ (S.live : Int)) = false := by simp; omega
    go_wp2_with fail
    refine HL.out.mono ?_
    rintro e w5 ⟨rfl, hw⟩
    rw [hw]
    clear hw
    go_wp2_with fail
    refine (long_any ⟨#[]⟩ (by show 0 ≤ _; omega) _).mono ?_
    rintro e w6 ⟨rfl, hw⟩
    rw [hw, show decide (1048576 < (⟨#[]⟩ : ByteArray).size) = false from rfl]
    clear hw
    go_wp2_with fail
    refine (containsFunc_nil _ _).mono ?_
    rintro e w7 ⟨rfl, hw⟩
    rw [hw]
    clear hw d1 x2 x3
    go_upto_region 18 with fail
    have hne := stb_ne wr
    have hgl := HX3.out.lt
    have xs := fun (x : InS (StB wr)) => HX3.out.below x.h
    simp only [List.set_cons_succ, List.set_cons_zero] at xs
    have z0 := fun x => (xs x).cell 0
    have z1 := fun x => (xs x).cell 1
    have z2 := fun x => (xs x).cell 2
    have z3 := fun x => (xs x).cell 3
    have z4 := fun x => (xs x).cell 4
    have z5 := fun x => (xs x).cell 5
    have z6 := fun x => (xs x).cell 6
    have z7 := fun x => (xs x).cell 7
    have z8 := fun x => (xs x).cell 8
    simp only [List.getElem?_cons_succ, List.getElem?_cons_zero] at z0 z1 z2 z3 z4 z5 z6 z7 z8
    have HTX := Lib.hid (fun w9 (hb : Below wr.heap.size wr w9) => add_new (HT4.out.below hb) hf (by omega) (newN 2 [c]) ⟨none, 0, rfl, .inl rfl⟩)
    clear xs
    refine reg_b (fun _ => undef) 4 (by kernel_rfl) (by kernel_rfl) ?_
    simp only [List.take_succ_cons, List.take_zero, List.drop_succ_cons, List.drop_zero]
    repeat (first
      | (refine m_held (by rfl) (by rfl) (fun K hK => ?_); go_big_quiet_step (fail); refine wpQuiet_nil ?_; refine hK.out _ ?_; clear hK K)
      | (refine m_skip (by rfl) ?_; simp only [Act.put, List.setIfInBounds_toArray, List.set_cons_zero, List.set_cons_succ]))
    refine m_nil ?_
    intro w8 h8
    clear z0 z1 z2 z3 z4 z5 z6 z7 z8 hne
    go_wp2_with fail
    refine (HTX.out _ h8).mono ?_
    rintro e w9 ⟨sv', rfl, hT9, hC9, hsv⟩
    have H9 := Lib.hid hT9
    have HC := Lib.hid hC9
    have HS := Lib.hid hsv
    clear hT9 hC9 hsv
    go_wp2_with fail
    go_ret2
    have h8' : Below w.heap.size w w8 := HB4.out.trans (h8.mono HB4.out.size)
    refine ⟨sv', rfl, H9.out, (Chg.of_below h8').trans HC.out (fun _ _ h => h), ?_⟩
    rcases HS.out with e | ⟨k, e, hk⟩
    · exact .inl e
    · exact .inr ⟨k, e, Nat.le_trans h8'.size hk⟩
end Go.Proofs.YtfdofkokiaapoaaGreatDoor.W
end
section
/- The contract of Make for a text without data. -/
namespace Go.Proofs.YtfdofkokiaapoaaGreatDoor.W
open Go.RowKit
set_option linter.unusedVariables false
set_option linter.unusedSimpArgs false

set_option maxRecDepth 100000 in
set_option maxHeartbeats 4000000 in
theorem make_text {B R : Nat} {S : Tr} {sv fv : Value} {w : World} (h : TAt B R S sv fv w) (hf : S.free = []) (hl : S.slots.length < 20000) (hT0 : Laid w) :
    Calls Tryz.prog 22 #[.pointer (some ⟨R, 0, none⟩), .int .i64 3, .string ⟨#[]⟩, .string ⟨#[]⟩, .slice none 0 0] w fun e w' => ∃ sv', e = .returned (.tuple #[.int .i64 (S.hd S.slots.length), .int .i64 0]) ∧
      TAt B R (S.snoc (newN 3 [])) sv' fv w' ∧ Chg (fun k => k = R ∨ sv.ownBlock = some k) w w' ∧ (sv'.ownBlock = sv.ownBlock ∨ ∃ k, sv'.ownBlock = some k ∧ w.heap.size ≤ k) := by
  have HE := Lib.hid (fun wx (hb : Below w.heap.size w wx) => repair_any [] wx (by simp) (hT0.below hb))
  have hfx : fix [] = [] := rfl
  rw [hfx] at HE
  have HT := Lib.hid h
  have hlv : S.live ≤ S.slots.length := List.length_filter_le _ _
  have hlt := h.blk.lt
  clear h hT0 hfx
  go_enter Tryz.func22, Tryz.ntmps22
  go_wp2_with fail
  have hb0 := (Below.refl w.heap.size w).alloc (Nat.le_refl _) (.cells #[.int .i64 3, .string ⟨#[]⟩, .slice none 0 0, .string ⟨#[]⟩, .int .i64 0, .int .i64 0, .int .i64 0, .int .i64 0, .int .i64 0] 113)
  have hx0 := Blk.new w [.int .i64 3, .string ⟨#[]⟩, .slice none 0 0, .string ⟨#[]⟩, .int .i64 0, .int .i64 0, .int .i64 0, .int .i64 0, .int .i64 0] 113
  have HB0 := Lib.hid hb0
  have HX0 := Lib.hid (show Blk (w.alloc (.cells #[.int .i64 3, .string ⟨#[]⟩, .slice none 0 0, .string ⟨#[]⟩, .int .i64 0, .int .i64 0, .int .i64 0, .int .i64 0, .int .i64 0] 113)) _ _ _ from hx0)
  clear hb0 hx0
  generalize w.alloc (.cells #[.int .i64 3, .string ⟨#[]⟩, .slice none 0 0, .string ⟨#[]⟩, .int .i64 0, .int .i64 0, .int .i64 0, .int .i64 0, .int .i64 0] 113) = w1 at *
  refine (HE.out _ HB0.out).mono ?_
  rintro e w3 ⟨rfl, hb3⟩
  have hx3 := HX0.out.below hb3
  have c3 := hx3.cell 3
  simp only [List.getElem?_cons_succ, List.getElem?_cons_zero] at c3
  have f3 := hx3.free 3
  have HX3 := Lib.hid (hx3.set 3 (.string ⟨#[]⟩))
  have hB3 := HB0.out.trans (hb3.mono HB0.out.size)
  have hB4 := hB3.setCell (p := ⟨w.heap.size, 3, none⟩) (Nat.le_refl _) (.string ⟨#[]⟩)
  have HB4 := Lib.hid hB4
  clear hx3 hb3 hB3 hB4
  go_upto_region 16 with fail
  clear c3 f3
  generalize w3.setCell ⟨w.heap.size, 3, none⟩ (.string ⟨#[]⟩) = wr at *
  have hT4 := HT.out.below HB4.out
  have HL := Lib.hid (len_any hT4)
  have x2 := HX3.out.cell 2
  have x3 := HX3.out.cell 3
  simp only [List.set_cons_succ, List.set_cons_zero, List.getElem?_cons_succ, List.getElem?_cons_zero] at x2 x3
  have HT4 := Lib.hid hT4
  clear hT4
  have d1 : decide ((20000 : Int) ≤ (S.live : Int)) = false := by simp; omega
  go_wp2_with fail
  refine HL.out.mono ?_
  rintro e w5 ⟨rfl, hw⟩
  rw [hw]
  clear hw
  go_wp2_with fail
  refine (long_any ⟨#[]⟩ (by show 0 ≤ _; omega) _).mono ?_
  rintro e w6 ⟨rfl, hw⟩
  rw [hw, show decide (1048576 < (⟨#[]⟩ : ByteArray).size) = false from rfl]
  clear hw
  go_wp2_with fail
  refine (containsFunc_nil _ _).mono ?_
  rintro e w7 ⟨rfl, hw⟩
  rw [hw]
  clear hw d1 x2 x3
  go_upto_region 18 with fail
  have hne := stb_ne wr
  have hgl := HX3.out.lt
  have xs := fun (x : InS (StB wr)) => HX3.out.below x.h
  simp only [List.set_cons_succ, List.set_cons_zero] at xs
  have z0 := fun x => (xs x).cell 0
  have z1 := fun x => (xs x).cell 1
  have z2 := fun x => (xs x).cell 2
  have z3 := fun x => (xs x).cell 3
  have z4 := fun x => (xs x).cell 4
  have z5 := fun x => (xs x).cell 5
  have z6 := fun x => (xs x).cell 6
  have z7 := fun x => (xs x).cell 7
  have z8 := fun x => (xs x).cell 8
  simp only [List.getElem?_cons_succ, List.getElem?_cons_zero] at z0 z1 z2 z3 z4 z5 z6 z7 z8
  have HTX := Lib.hid (fun w9 (hb : Below wr.heap.size wr w9) => add_new (HT4.out.below hb) hf (by omega) (newN 3 []) ⟨none, 0, rfl, .inl rfl⟩)
  clear xs
  refine reg_b (fun _ => undef) 4 (by kernel_rfl) (by kernel_rfl) ?_
  simp only [List.take_succ_cons, List.take_zero, List.drop_succ_cons, List.drop_zero]
  repeat (first
    | (refine m_held (by rfl) (by rfl) (fun K hK => ?_); go_big_quiet_step (fail); refine wpQuiet_nil ?_; refine hK.out _ ?_; clear hK K)
    | (refine m_skip (by rfl) ?_; simp only [Act.put, List.setIfInBounds_toArray, List.set_cons_zero, List.set_cons_succ]))
  refine m_nil ?_
  intro w8 h8
  clear z0 z1 z2 z3 z4 z5 z6 z7 z8 hne
  go_wp2_with fail
  refine (HTX.out _ h8).mono ?_
  rintro e w9 ⟨sv', rfl, hT9, hC9, hsv⟩
  have H9 := Lib.hid hT9
  have HC := Lib.hid hC9
  have HS := Lib.hid hsv
  clear hT9 hC9 hsv
  go_wp2_with fail
  go_ret2
  have h8' : Below w.heap.size w w8 := HB4.out.trans (h8.mono HB4.out.size)
  refine ⟨sv', rfl, H9.out, (Chg.of_below h8').trans HC.out (fun _ _ h => h), ?_⟩
  rcases HS.out with e | ⟨k, e, hk⟩
  · exact .inl e
  · exact .inr ⟨k, e, Nat.le_trans h8'.size hk⟩
end Go.Proofs.YtfdofkokiaapoaaGreatDoor.W
end
section
/- Document: a small document is made. -/
namespace Go.Proofs.YtfdofkokiaapoaaGreatDoor.W
open Go.RowKit
set_option linter.unusedVariables false
set_option linter.unusedSimpArgs false

theorem Dc.snoc {S : Tr} {K d} {N : Nat} (h : Dc S K d N) (k : Int) (nm : List UInt8) (hk : k = 2 ∨ k = 3) (hN : N < 1000) : Dc (S.snoc (newN k nm)) K (fun x => if x = S.slots.length then 1 else d x) (N + 1) := by
  have hl := h.len
  refine ⟨h.lk.snoc rfl rfl rfl rfl rfl (by omega), h.free, fun i hi => ?_, h.root, ?_, fun i n hi0 hi => ?_, fun i n hi => ?_, by rw [snoc_len, hl]⟩
  · rw [at_snoc]
    by_cases e : i = S.slots.length
    · rw [if_pos e]; rfl
    · rw [if_neg e]; exact h.used i (by rw [snoc_len] at hi; omega)
  · obtain ⟨n, hn, hk⟩ := h.doc
    exact ⟨n, by rw [at_snoc, if_neg (by omega)]; exact hn, hk⟩
  · rw [at_snoc] at hi
    by_cases e : i = S.slots.length
    · rw [if_pos e] at hi; cases hi; exact hk
    · rw [if_neg e] at hi; exact h.el i n hi0 hi
  · rw [at_snoc] at hi
    by_cases e : i = S.slots.length
    · rw [if_pos e] at hi; cases hi; exact ⟨by simp [newN], by simp [newN]⟩
    · rw [if_neg e] at hi; exact h.sz i n hi
theorem dc_start (b s : Int) : Dc (newT b s) (fun _ => []) (fun _ => 1) 0 := by
  have hat : ∀ i n, (newT b s).at i = some n → i = 0 ∧ n = newN 1 [] := fun i n hi => by
    unfold Tr.at newT at hi
    cases i with
    | zero => simp at hi; exact ⟨rfl, hi.symm⟩
    | succ i => simp at hi
  refine ⟨start_lk b s, rfl, fun i hi => ?_, rfl, ⟨newN 1 [], rfl, rfl⟩, fun i n hi0 hi => absurd (hat i n hi).1 hi0, fun i n hi => ?_, rfl⟩
  · have : i = 0 := by simp [newT] at hi; omega
    subst this; rfl
  · rw [(hat i n hi).2]; exact ⟨by simp [newN], by simp [newN]⟩

section
variable {B : Nat} {w0 w : World} {R : Nat} {S : Tr} {sv fv : Value} {N : Nat} {l : List Ob} {K : Nat → List Nat} {d : Nat → Nat}
theorem mk_done (hD : Dc S K d N) (h : All B w0 (trO R S sv fv :: l) w) {sv' : Value} {w' : World} {k : Int} {nm : List UInt8} (hT' : TAt 0 R (S.snoc (newN k nm)) sv' fv w') (hC : Chg (fun k => k = R ∨ sv.ownBlock = some k) w w') (hs : sv'.ownBlock = sv.ownBlock ∨ ∃ k, sv'.ownBlock = some k ∧ w.heap.size ≤ k) :
    All B w0 (trO R (S.snoc (newN k nm)) sv' fv :: l) w' := by
  refine h.step [] (o' := trO R (S.snoc (newN k nm)) sv' fv) hT' (hC.mono (fun i _ e => by rcases e with e | e; exact .inl e; exact .inr (.inl e))) (fun i hi => ?_)
  rcases hi with hi | hi | hi | ⟨x, n, hx, hne, hi⟩
  · exact .inl (.inl hi)
  · rcases hs with hs | ⟨k', hs, hk'⟩
    · exact .inl (.inr (.inl (hs ▸ hi)))
    · rw [hs] at hi; cases hi; exact .inr hk'
  · exact .inl (.inr (.inr (.inl hi)))
  · rw [at_snoc] at hx
    by_cases e : x = S.slots.length
    · rw [if_pos e] at hx; cases hx; exact absurd rfl hne
    · rw [if_neg e] at hx; exact .inl (.inr (.inr (.inr ⟨x, n, hx, hne, hi⟩)))
/-- what Make leaves -/
def MkR (B : Nat) (w0 : World) (R : Nat) (S : Tr) (sv fv : Value) (N : Nat) (K : Nat → List Nat) (l : List Ob) (e : Ending) (w' : World) : Prop :=
  ∃ n d' sv', e = .returned (.tuple #[.int .i64 (S.hd (N + 1)), .int .i64 0]) ∧ Dc (S.snoc n) K d' (N + 1) ∧ All B w0 (trO R (S.snoc n) sv' fv :: l) w'
theorem op_make (hD : Dc S K d N) (h : All B w0 (trO R S sv fv :: l) w) (hN : N < 1000) :
    Calls Tryz.prog 22 #[.pointer (some ⟨R, 0, none⟩), .int .i64 2, .string ⟨#[112]⟩, .string ⟨#[]⟩, .slice none 0 0] w (MkR B w0 R S sv fv N K l) := by
  refine (make_one (show TAt 0 R S sv fv w from h.head) hD.free (by rw [hD.len]; omega) 112 (by unfold Ltr; decide)).mono ?_
  rintro e w' ⟨sv', rfl, hT', hC, hs⟩
  exact ⟨_, _, sv', by rw [hD.len], hD.snoc 2 [112] (.inl rfl) hN, mk_done hD h hT' hC hs⟩
theorem op_makeT (hD : Dc S K d N) (h : All B w0 (trO R S sv fv :: l) w) (hT : Laid w) (hN : N < 1000) :
    Calls Tryz.prog 22 #[.pointer (some ⟨R, 0, none⟩), .int .i64 3, .string ⟨#[]⟩, .string ⟨#[]⟩, .slice none 0 0] w (MkR B w0 R S sv fv N K l) := by
  refine (make_text (show TAt 0 R S sv fv w from h.head) hD.free (by rw [hD.len]; omega) hT).mono ?_
  rintro e w' ⟨sv', rfl, hT', hC, hs⟩
  exact ⟨_, _, sv', by rw [hD.len], hD.snoc 3 [] (.inr rfl) hN, mk_done hD h hT' hC hs⟩
end

theorem hds_snoc (S : Tr) (n : Nd) (N : Nat) : hds (S.snoc n) (N + 1) = hds S N ++ [S.hd (N + 1)] := by
  unfold hds
  rw [List.range_succ, List.map_append]
  rfl
theorem tree_newA {B : Nat} {w0 w : World} {l : List Ob} (h : All B w0 l w) (b s : Int) :
    Calls Tryz.prog 21 #[.agg #[.int .i64 b, .int .i64 s]] w fun e w' => ∃ R sv, e = .returned (.pointer (some ⟨R, 0, none⟩)) ∧ All B w0 (trO R (newT b s) sv (.slice none 0 0) :: l) w' := by
  refine (tree_new b s w).mono ?_
  rintro e w' ⟨R, sv, rfl, hT, hb⟩
  refine ⟨R, sv, rfl, h.new ⟨hT.blk, own_low hT.slots (Nat.zero_le _), own_low hT.free (Nat.zero_le _), fun i n hi => ?_, Nat.zero_le _, hT.few⟩ hb (fun k hk => ?_)⟩
  · obtain ⟨a, c, e, h'⟩ := hT.attrs i n hi
    exact ⟨a, c, e, h'.imp id fun ⟨g, cur, e1, _, r⟩ => ⟨g, cur, e1, Nat.zero_le _, r⟩⟩
  · rcases hk with rfl | hk | hk | ⟨i, n, hi, hne, hk⟩
    · exact hT.base
    · exact (hT.slots.lt k hk).1
    · cases hk
    · obtain ⟨a, c, e, h'⟩ := hT.attrs i n (at_slot hi)
      rcases h' with h' | ⟨g, cur, rfl, hg, _⟩
      · exact absurd h' hne
      · rw [e] at hk; cases hk; exact hg

/-- the state of Document's loop -/
def DmR (w0 : World) (R n : Nat) (lv iv : Value) (wr : World) : Prop :=
  ∃ (i : Nat) (S : Tr) (d : Nat → Nat) (sv : Value), i ≤ n ∧ iv = .int .i64 (i : Int) ∧ Dc S (fun _ => []) d i ∧ All w0.heap.size w0 (trO R S sv (.slice none 0 0) :: [gl lv (hds S i)]) wr
/-- what Document leaves -/
def DoR (w0 : World) (n : Nat) (e : Ending) (w' : World) : Prop :=
  ∃ (R : Nat) (S : Tr) (K : Nat → List Nat) (d : Nat → Nat) (sv fv lv : Value), e = .returned (.tuple #[.pointer (some ⟨R, 0, none⟩), lv]) ∧ Dc S K d n ∧ All w0.heap.size w0 (trO R S sv fv :: [gl lv (hds S n)]) w'
theorem hds_same {S S' : Tr} (hb : S'.b = S.b) (hs : S'.s = S.s) (N : Nat) : hds S' N = hds S N := by unfold hds Tr.hd; rw [hb, hs]
theorem etI : ET Tryz.prog 28 3 1 8 := ET.mk' (z := .int .i64 0) Tryz.underlying28 (by kernel_rfl) rfl (by decide)

set_option maxRecDepth 100000 in
set_option maxHeartbeats 4000000 in
theorem document_any {w : World} (hT : Laid w) (ka : Option Addr) (n kc : Nat) (xs : List Int) (hx : ∀ i, i < n → ∃ g o, ka = some ⟨g, o, none⟩ ∧ w.cell? ⟨g, o + i, none⟩ = some (.int .u8 (xs[i]?.getD 0)) ∧ 0 ≤ xs[i]?.getD 0 ∧ xs[i]?.getD 0 ≤ 255) (hn : n ≤ 900) :
    Calls Tryz.prog 7 #[.slice ka n kc] w (DoR w n) := by
  have HN := Lib.hid (tree_newA (All.start w) 5 2)
  have HX := Lib.hid hx
  have HTt := Lib.hid hT
  clear hT hx
  go_enter Tryz.func7, Tryz.ntmps7
  go_wp2_with fail
  refine HN.out.mono ?_
  rintro e w1 ⟨R, sv, rfl, hA1⟩
  have HA1 := Lib.hid hA1
  clear hA1 HN
  go_wp2_with fail
  go_loopw [5, 15] (fun lv iv wr => DmR w R n lv iv wr) (fun _ iv _ => n - intN iv)
  case atStart => exact ⟨0, newT 5 2, _, sv, Nat.zero_le _, rfl, dc_start 5 2, (HA1.out.nil 3 1).swap⟩
  case round =>
    obtain ⟨i, S, d, sv1, hi, rfl, hD, hA⟩ := hrel
    have HA := Lib.hid hA
    have HD := Lib.hid hD
    clear hA hD HA1
    by_cases hin : i < n
    · obtain ⟨gk, o, rfl, qk, hk0, hk1⟩ := HX.out i hin
      have qk2 := cell_keep HA.out.below qk
      generalize xs[i]?.getD 0 = x at *
      have HTr := Lib.hid (HTt.out.below HA.out.below)
      have HM1 := Lib.hid (op_make HD.out HA.out (by omega))
      have HM2 := Lib.hid (op_makeT HD.out HA.out HTr.out (by omega))
      clear qk
      have hcase : (x % 2 = 1 ∧ 0 < i) ∨ (x % 2 = 1 ∧ i = 0) ∨ ¬ x % 2 = 1 := by omega
      rcases hcase with ⟨hodd, hi0⟩ | ⟨hodd, hi0⟩ | hodd
      case' inl =>
        have d1 : (x % 2 == 1) = true := by simpa using hodd
        have d2 : decide (0 < i) = true := by simpa using hi0
        clear HM1 hi0 hodd
        go_wp2_with fail
        refine HM2.out.mono ?_
      case' inr.inl =>
        have d1 : (x % 2 == 1) = true := by simpa using hodd
        have d2 : decide (0 < i) = false := by simp; omega
        clear HM2 hodd hi0
        go_wp2_with fail
        refine HM1.out.mono ?_
      case' inr.inr =>
        have d1 : (x % 2 == 1) = false := by simpa using hodd
        clear HM2 hodd
        go_wp2_with fail
        refine HM1.out.mono ?_
      all_goals
        rintro e w5 ⟨nn, d', sv', rfl, hD5, hA5⟩
        have HD5 := Lib.hid hD5
        have HA5 := Lib.hid hA5
        have HS := Lib.hid (own_at (n := 1) (size := 1) (Blk.new w5 [.int .i64 (S.hd (i + 1))] 3) rfl (by omega))
        have hln := hds_len S i
        have hsn := hds_snoc S nn i
        clear hD5 hA5
        go_wp2_with (at_builtin; refine wpList_append_all etI [trO R (S.snoc nn) sv' (.slice none 0 0)] (HA5.out.alloc _) HS.out ?c1 ?c2 (by omega) rfl _ _ rfl rfl rfl ?_)
        case c1 => intro u hu; simp at hu; subst hu; rfl
        case c2 => rw [hln]; omega
        intro v' w6 hA6
        have hA7 : All w.heap.size w (trO R (S.snoc nn) sv' (.slice none 0 0) :: [gl v' (hds (S.snoc nn) (i + 1))]) w6 := by
          have e1 : hcells (hds S i) ++ [.int .i64 (S.hd (i + 1))] = hcells (hds (S.snoc nn) (i + 1)) := by rw [hsn]; simp [hcells]
          rw [e1] at hA6
          show All w.heap.size w (trO R (S.snoc nn) sv' (.slice none 0 0) :: [sl 3 1 v' (hds (S.snoc nn) (i + 1)).length (hcells (hds (S.snoc nn) (i + 1)))]) w6
          rw [hds_len]
          exact hA6
        have HA7 := Lib.hid hA7
        clear hA6 hA7 HS HA5 hln hsn
        go_wp2_with fail
        exact ⟨⟨i + 1, _, _, sv', by omega, by go_num, HD5.out, HA7.out⟩, by simp [intN]; omega⟩
    · obtain rfl : i = n := by omega
      have hlO : Own wr _ _ _ _ _ := HA.out.tail.head
      rw [hds_len] at hlO
      obtain ⟨la, lc, hlv⟩ := own_shape hlO
      by_cases h0 : i = 0
      · subst hlv
        subst h0
        clear hlO
        go_wp2_with fail
        go_ret2
        exact ⟨R, S, _, d, sv1, _, _, rfl, HD.out, HA.out⟩
      · obtain ⟨gh, ch, hlv2, _⟩ := own_some hlO (by omega)
        rw [hlv] at hlv2
        simp only [Value.slice.injEq] at hlv2
        obtain ⟨rfl, _, rfl⟩ := hlv2
        subst hlv
        have q0 := hlO.cellAt 0 (by omega)
        rw [hcells, List.getElem?_map, hds_at S i 0 (by omega)] at q0
        have hR : TAt 0 R S sv1 _ wr := HA.out.head
        have r5 := hR.blk.cell 5
        simp only [List.getElem?_cons_succ, List.getElem?_cons_zero, HD.out.root] at r5
        have gl0 := own_lt hlO (k := gh) rfl
        have gR := hR.blk.lt
        obtain ⟨n0, hn0⟩ := Option.isSome_iff_exists.1 (HD.out.used 0 (by rw [HD.out.len]; omega))
        obtain ⟨n1, hn1⟩ := Option.isSome_iff_exists.1 (HD.out.used 1 (by rw [HD.out.len]; omega))
        have HI := Lib.hid (fun wx (hb : Below wr.heap.size wr wx) => op_insert HD.out (HA.out.still hb) 0 1 none n0 n1 hn0 hn1 (fun b e => by cases e))
        rw [show hO S none = 0 from rfl] at HI
        have hi0 : 0 < i := by omega
        have d0 : decide ((0 : Int) < (i : Int)) = true := by simp; omega
        have x0 : ∀ x : InS (StB wr), x.w.cell? ⟨gh, 0, none⟩ = some (.int .i64 (S.hd 1)) := fun x => ((bcell x.h).1 _ _ gl0).trans q0
        have x5 : ∀ x : InS (StB wr), x.w.cell? ⟨R, 5, none⟩ = some (.int .i64 (S.hd 0)) := fun x => ((bcell x.h).1 _ _ gR).trans r5
        have hne := stb_ne wr
        clear hR q0 r5 hlO
        go_upto_region 15 with fail
        refine reg_b (fun _ => undef) 8 (by kernel_rfl) (by kernel_rfl) ?_
        simp only [List.take_succ_cons, List.take_zero, List.drop_succ_cons, List.drop_zero]
        repeat (first
          | (refine m_held (by rfl) (by rfl) (fun K hK => ?_); go_big_quiet_step (fail); refine wpQuiet_nil ?_; refine hK.out _ ?_; clear hK K)
          | (refine m_skip (by rfl) ?_; simp only [Act.put, List.setIfInBounds_toArray, List.set_cons_zero, List.set_cons_succ]))
        refine m_nil ?_
        intro w8 h8
        clear x0 x5 hne
        go_wp2_with fail
        refine (HI.out _ h8).mono ?_
        rintro e w9 ⟨S', K', d', v, er, rs, rfl, q1, q2, q3, q4, q5, q6⟩
        have Q1 := Lib.hid q1
        have Q6 := Lib.hid q6
        clear q1 q4 q6
        go_wp2_with fail
        go_ret2
        have hfin : All w.heap.size w (trO R S' sv1 (.slice none 0 0) :: [gl (.slice (some ⟨gh, 0, none⟩) i lc) (hds S' i)]) w9 := by
          rw [hds_same q2 q3]
          exact Q6.out.tail
        exact ⟨R, S', K', d', sv1, .slice none 0 0, .slice (some ⟨gh, 0, none⟩) i lc, rfl, Q1.out, hfin⟩
end Go.Proofs.YtfdofkokiaapoaaGreatDoor.W
end
