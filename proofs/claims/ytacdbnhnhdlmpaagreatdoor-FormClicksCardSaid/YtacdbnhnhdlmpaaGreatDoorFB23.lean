/- Texts joined: TwD TwX Tins Mut Make MakeT DocM MkA. -/
import Derived.Test.YtacdbnhnhdlmpaaGreatDoorFB22
import Derived.Test.YtacdbnhnhdlmpaaGreatDoorFB20
import Derived.Lib.AppendStr
import Derived.Test.YtacdbnhnhdlmpaaGreatDoorFB11
import Derived.Test.YtacdbnhnhdlmpaaGreatDoorFB15
import Derived.Test.YtacdbnhnhdlmpaaGreatDoorFB6
import Derived.Test.YtacdbnhnhdlmpaaGreatDoorFB12
import Derived.Deep.CutBlock
import Derived.Test.YtacdbnhnhdlmpaaGreatDoorFB9
import Derived.Test.YtacdbnhnhdlmpaaGreatDoorFB17
set_option maxRecDepth 100000
set_option maxHeartbeats 40000000
set_option linter.unusedVariables false
set_option linter.unusedSimpArgs false
section
namespace Go.Proofs.YtacdbnhnhdlmpaaGreatDoor.W
open Go.RowKit

end Go.Proofs.YtacdbnhnhdlmpaaGreatDoor.W
end
section
namespace Go.Proofs.YtacdbnhnhdlmpaaGreatDoor.W
open Go.RowKit
section
variable {B : Nat} {w0 w w' : World} {l : List Ob} {g R Q : Nat} {hv sv fv nv : Value} {Hs : List Int} {S : Tr}
structure TrOut (R : Nat) (S : Tr) (sv fv : Value) (w : World) (S' : Tr) (sv' fv' : Value) (w' : World) : Prop where
  at_ : TAt 0 R S' sv' fv' w'
  chg : Chg (trF R S sv fv) w w'
  new : ∀ k, trF R S' sv' fv' k → trF R S sv fv k ∨ w.heap.size ≤ k
theorem TrOut.refl (h : TAt 0 R S sv fv w) (hb : Below w.heap.size w w') : TrOut R S sv fv w S sv fv w' := ⟨h.below hb, Chg.of_below hb, fun k hk => .inl hk⟩
end
end Go.Proofs.YtacdbnhnhdlmpaaGreatDoor.W
namespace Go.Proofs.YtacdbnhnhdlmpaaGreatDoor.W
open Go.RowKit
def OpT (R : Nat) (S : Tr) (sv fv : Value) (w : World) (Res : Tr → List (List Value) → Int → Prop) (e : Ending) (w' : World) : Prop :=
  ∃ S' sv' fv' v ls er, Res S' ls er ∧ e = .returned (.tuple #[v, .int .i64 er]) ∧ RcAt w' w.heap.size v ls ∧ TrOut R S sv fv w S' sv' fv' w' ∧ ∃ ts : List Rc, ls = ts.map encR
theorem opT_nil {R : Nat} {S : Tr} {sv fv : Value} {w w' : World} {Res : Tr → List (List Value) → Int → Prop} (h : TAt 0 R S sv fv w) (hb : Below w.heap.size w w') {er : Int} (hr : Res S [] er) : OpT R S sv fv w Res (.returned (.tuple #[.slice none 0 0, .int .i64 er])) w' :=
  ⟨S, sv, fv, _, [], er, hr, rfl, World.ownsRow_nil _ _ _ _, TrOut.refl h hb, [], rfl⟩
theorem opT_of {R g cap : Nat} {S S' : Tr} {fv v : Value} {w w' : World} {Res : Tr → List (List Value) → Int → Prop} {ls : List (List Value)} {er : Int} (hr : Res S' ls er) (hrc : RcAt w' w.heap.size v ls) (hT : TAt 0 R S' (.slice (some ⟨g, 0, none⟩) S'.slots.length cap) fv w') (hl : S'.slots.length = S.slots.length) (hC : Chg (fun k => k = g) w w')
    (hF : ∀ k, trF R S' (.slice (some ⟨g, 0, none⟩) S.slots.length cap) fv k → trF R S (.slice (some ⟨g, 0, none⟩) S.slots.length cap) fv k ∨ w.heap.size ≤ k) (hls : ∃ ts : List Rc, ls = ts.map encR) : OpT R S (.slice (some ⟨g, 0, none⟩) S.slots.length cap) fv w Res (.returned (.tuple #[v, .int .i64 er])) w' := by
  rw [hl] at hT
  exact ⟨S', _, fv, v, ls, er, hr, rfl, hrc, ⟨hT, hC.mono (fun i _ e => by subst e; exact .inr (.inl rfl)), hF⟩, hls⟩
section
variable {E : Nat → Prop} {c x : Nat} {S : Tr} {K : Nat → List Nat} {d : Nat → Nat} {σ : Nat → Nat}
/-! ### links -/
inductive RemT (S : Tr) (K : Nat → List Nat) (i : Nat) (n : Nd) : Tr → List (List Value) → Int → Prop
  | doc (h : n.kind = 1) : RemT S K i n S [] 10
  | top (h : n.kind ≠ 1) (ht : ∀ q, i ∉ K q) : RemT S K i n S [] 0
  | kid (S' : Tr) (q j : Nat) (h : n.kind ≠ 1) (hj : (K q)[j]? = some i) (hc : Cutd S S' (K q) q j i) : RemT S K i n S' [recC 2 (S.hd q) (S.hd i) n.prev n.next (j : Int) [] [] false 0 0] 0
end
end Go.Proofs.YtacdbnhnhdlmpaaGreatDoor.W
namespace Go.Proofs.YtacdbnhnhdlmpaaGreatDoor.W
open Go.RowKit
section
variable {E : Nat → Prop} {c x : Nat} {S : Tr} {K : Nat → List Nat} {d : Nat → Nat} {σ : Nat → Nat} {R : Nat} {sv fv : Value} {w : World}
theorem trem_any (h : TAt 0 R S sv fv w) (L : Lk S K d) (i : Nat) (n : Nd) (hi : S.at i = some n) : Calls Tryz.prog 54 #[.pointer (some ⟨R, 0, none⟩), .int .i64 (S.hd i)] w (OpT R S sv fv w (RemT S K i n)) := by
  obtain ⟨g, cap, rfl⟩ := slots_some h (by have := at_lt hi; omega)
  by_cases hk : n.kind = 1
  · refine (remove_doc h L i n hi hk).mono ?_
    rintro e w' ⟨rfl, hb⟩
    exact opT_nil h hb (.doc hk)
  · rcases L.parO i with ⟨q, hq⟩ | ht
    · obtain ⟨j, hj⟩ := List.mem_iff_getElem?.1 hq
      refine (remove_kid h L q j i n hi hk hj).mono ?_
      rintro e w' ⟨S', v, hc, rfl, hrc, hT, hC⟩
      exact opT_of (.kid S' q j hk hj hc) hrc hT hc.len hC (fun k hk => .inl (trF_map _ (keeps_cut _ _ _ _ _) hc.at_ k hk)) ⟨[⟨2, S.hd q, S.hd i, n.prev, n.next, j, [], [], false, 0, 0⟩], rfl⟩
    · refine (remove_top h L i n hi hk ht).mono ?_
      rintro e w' ⟨rfl, hb⟩
      exact opT_nil h hb (.top hk ht)
inductive InsT (S : Tr) (K : Nat → List Nat) (d : Nat → Nat) (p i : Nat) (o : Option Nat) (np ni : Nd) : Tr → List (List Value) → Int → Prop
  | no (h : mayB S K d p i np ni = false) : InsT S K d p i o np ni S [] 10
  | other (b : Nat) (h : mayB S K d p i np ni = true) (e : o = some b) (hb : b ∉ K p) : InsT S K d p i o np ni S [] 10
  | far (h : mayB S K d p i np ni = true) (ho : ∀ b, o = some b → b ∈ K p) (hd : 128 < d p + hgt K (128 - d i) i) : InsT S K d p i o np ni S [] 5
  | ok (S' : Tr) (K' : Nat → List Nat) (ls : List (List Value)) (h : mayB S K d p i np ni = true) (ho : ∀ b, o = some b → b ∈ K p) (hd : d p + hgt K (128 - d i) i ≤ 128) (hout : InsOut S K i p o ni S' K' ls) (hL : Lk S' K' (dIns S d p i)) : InsT S K d p i o np ni S' ls 0
theorem par_not (L : Lk S K d) {p b : Nat} {nb np : Nd} (hb : S.at b = some nb) (hp : S.at p = some np) (hn : b ∉ K p) : nb.parent ≠ S.hd p := fun e => by
  rcases L.parO b with ⟨q, hq⟩ | ht
  · obtain ⟨j, hj⟩ := List.mem_iff_getElem?.1 hq
    have h1 := (L.kid q j b nb hj hb).1
    obtain ⟨nq, hnq⟩ := Option.isSome_iff_exists.1 (L.kin q b hq).1
    have := at_lt hnq
    have := at_lt hp
    have := L.few
    have e2 := hdl_inj (b := S.b) (s := S.s) (i := q) (j := p) (by omega) (by omega) (h1.symm.trans e)
    exact hn (e2 ▸ hq)
  · have h1 := (L.top b nb hb ht).1
    have := (hd_ok L hp).2
    omega
theorem tins_any (h : TAt 0 R S sv fv w) (L : Lk S K d) (p i : Nat) (o : Option Nat) (np ni : Nd) (hp : S.at p = some np) (hi : S.at i = some ni) (ho : ∀ b, o = some b → (S.at b).isSome = true) :
    Calls Tryz.prog 57 #[.pointer (some ⟨R, 0, none⟩), .int .i64 (S.hd p), .int .i64 (S.hd i), .int .i64 (hO S o)] w (OpT R S sv fv w (InsT S K d p i o np ni)) := by
  obtain ⟨g, cap, rfl⟩ := slots_some h (by have := at_lt hi; omega)
  cases hmay : mayB S K d p i np ni with
  | false =>
    refine (insert_no h L p i o np ni hp hi ho hmay).mono ?_
    rintro e w' ⟨rfl, hb⟩
    exact opT_nil h hb (.no hmay)
  | true =>
    by_cases hin : ∀ b, o = some b → b ∈ K p
    · by_cases hdep : d p + hgt K (128 - d i) i ≤ 128
      · refine (insert_ok h L p i o np ni hp hi hin hmay hdep).mono ?_
        rintro e w' ⟨S', K', v, ls, hout, hL', rfl, hrc, hT, hC⟩
        have hx : S'.slots.length = S.slots.length ∧ ∀ k, trF R S' (.slice (some ⟨g, 0, none⟩) S.slots.length cap) fv k → trF R S (.slice (some ⟨g, 0, none⟩) S.slots.length cap) fv k ∨ w.heap.size ≤ k := by
          cases id hout with
          | det j h1 h2 h3 h4 h5 => exact ⟨h3.len, fun k hk => .inl (trF_map _ (keeps_link _ _ _ _ _) h3.at_ k hk)⟩
          | att q t j S1 o' h1 h2 h3 h4 h5 h6 h7 => exact ⟨h5.len.trans h2.len, fun k hk => .inl (trF_map _ (keeps_cut _ _ _ _ _) h2.at_ k (trF_map _ (keeps_link _ _ _ _ _) h5.at_ k hk))⟩
        have hls : ∃ ts : List Rc, ls = ts.map encR := by
          cases id hout with
          | det j h1 h2 h3 h4 h5 => subst h5; exact ⟨[⟨1, S.hd p, S.hd i, _, _, j, [], [], false, 0, 0⟩], rfl⟩
          | att q t j S1 o' h1 h2 h3 h4 h5 h6 h7 => subst h7; exact ⟨[⟨2, S.hd q, S.hd i, ni.prev, ni.next, t, [], [], false, 0, 0⟩, ⟨1, S.hd p, S.hd i, _, _, j, [], [], false, 0, 0⟩], rfl⟩
        exact opT_of (.ok S' K' ls hmay hin hdep hout hL') hrc hT hx.1 hC hx.2 hls
      · refine (insert_far h L p i o np ni hp hi hin hmay (by omega)).mono ?_
        rintro e w' ⟨rfl, hb⟩
        exact opT_nil h hb (.far hmay hin (by omega))
    · obtain ⟨b, rfl, hb⟩ : ∃ b, o = some b ∧ b ∉ K p := by
        cases o with
        | none => exact absurd (fun b hb => by cases hb) hin
        | some b => exact ⟨b, rfl, fun hb => hin (fun b' e => by cases e; exact hb)⟩
      obtain ⟨nb, hnb⟩ := Option.isSome_iff_exists.1 (ho b rfl)
      refine (insert_other h L p i b np ni nb hp hi hnb hmay (par_not L hnb hp hb)).mono ?_
      rintro e w' ⟨rfl, hb'⟩
      exact opT_nil h hb' (.other b hmay rfl hb)
end
end Go.Proofs.YtacdbnhnhdlmpaaGreatDoor.W
namespace Go.Proofs.YtacdbnhnhdlmpaaGreatDoor.W
open Go.RowKit
section
variable {B : Nat} {w0 w w' : World} {l : List Ob} {g R Q b : Nat} {hv sv fv nv : Value} {S : Tr} {Hs : List Int} {x : Ob}
theorem mak_out {kind : Int} {name data : List UInt8} {al : List Atr} {e : Ending} (h : MakTR 0 R S sv fv w kind name data al e w') (hfr : ∀ i ∈ S.free, S.slots[i]? = some none) (hnd : S.free.Nodup) : ∃ S' sv' fv' h er, MakT w.heap.size S kind name data al S' h er ∧ e = .returned (.tuple #[.int .i64 h, .int .i64 er]) ∧ TrOut R S sv fv w S' sv' fv' w' := by
  obtain ⟨S', sv', fv', h, er, hm, he, hT, hC, h1, h2⟩ := h
  refine ⟨S', sv', fv', h, er, hm, he, hT, hC.mono (fun k _ hk => hk.imp id .inl), fun k hk => ?_⟩
  rcases hk with rfl | hk | hk | ⟨i, n, hi, ha, hk⟩
  · exact .inl (.inl rfl)
  · rcases h1 with e | ⟨q, e, hq⟩
    · exact .inl (.inr (.inl (by rw [← e]; exact hk)))
    · rw [e] at hk; cases hk; exact .inr hq
  · exact .inl (.inr (.inr (.inl (by rw [← h2]; exact hk))))
  · have old : S'.at i = S.at i → trF R S sv fv k ∨ w.heap.size ≤ k := fun e => .inl (.inr (.inr (.inr ⟨i, n, by rw [← e]; exact hi, ha, hk⟩)))
    cases hm with
    | kind _ _ _ => exact old rfl
    | arg _ _ => exact old rfl
    | many _ _ _ => exact old rfl
    | el av e hb hl hf =>
      have kk := added_of hfr hnd (mkN 2 name av (al.map fun a => (a.1, fix a.2)) [])
      by_cases e : i = S.addI
      · rw [kk.at_, if_pos e] at hi
        cases hi
        exact .inr (hf k hk)
      · exact old (by rw [kk.at_, if_neg e])
    | tx e =>
      have kk := added_of hfr hnd (mkN kind [] (.slice none 0 0) [] (fix data))
      by_cases e : i = S.addI
      · rw [kk.at_, if_pos e] at hi
        cases hi
        exact absurd rfl ha
      · exact old (by rw [kk.at_, if_neg e])
end
end Go.Proofs.YtacdbnhnhdlmpaaGreatDoor.W
namespace Go.Proofs.YtacdbnhnhdlmpaaGreatDoor.W
open Go.RowKit
attribute [local go_sem] Oper.semAt_some
end Go.Proofs.YtacdbnhnhdlmpaaGreatDoor.W
namespace Go.Proofs.YtacdbnhnhdlmpaaGreatDoor.W
open Go.RowKit
attribute [local go_sem] Oper.semAt_some
theorem writeStr_any (B b : Nat) (l s : List UInt8) (w : World) (h : Lib.IsBuilderF 188 5 B b (Lib.byteCells l) w) (hlen : l.length + s.length ≤ 1000000000) (hBw : B ≤ w.heap.size) :
    Calls Tryz.prog 143 #[.pointer (some ⟨b, 0, none⟩), .string ⟨s.toArray⟩] w fun e w' => (∃ v, e = .returned v) ∧ (Lib.IsBuilderF 188 5 B b (Lib.byteCells (l ++ s)) w' ∧ Below B w w' ∧ Lib.OthersKept 5 (some b) w w') := by
  obtain ⟨i0, hi, hz0, hz1, hz2⟩ := info_parts infoB
  go_enter Tryz.func143, Tryz.ntmps143
  go_wp2_with (go_at_call 157; refine (copy_any B b _ _ h).mono ?_)
  rintro e w1 ⟨rfl, h1, hb1, hk1⟩
  obtain ⟨hB, v, hbk, hown, hne⟩ := h1
  have c0 : w1.cell? ⟨b, 0, none⟩ = some (.pointer (some ⟨b, 0, none⟩)) := by rw [Lib.cell_of_heap hbk]; rfl
  have c1 : w1.cell? ⟨b, 1, none⟩ = some v := by rw [Lib.cell_of_heap hbk]; rfl
  have hll : (Lib.byteCells l).length = l.length := by simp [Lib.byteCells]
  rw [hll] at hown
  go_wp2_with (at_builtin; refine Lib.wpList_append_own_stringF _ rfl _ _ 87 9 rfl B 5 i0 Tryz.underlying87 Tryz.underlying9 hi hz0 hz1 hz2 _ _ _ rfl hown ⟨s.toArray⟩ rfl ?c3 ?c4 ?c5 ?_)
  case c3 => unfold maxLen; simp [ByteArray.size]; omega
  case c4 => simp [ByteArray.size]; omega
  case c5 => have := hb1.size; omega
  intro v' w2 hown' hgrow _
  have hlt : b < w1.heap.size := lt_of_block' hbk
  have hb2 : w2.heap[b]? = some (.cells #[.pointer (some ⟨b, 0, none⟩), v] 188 (0, 0)) := by
    rw [hgrow.block b hlt (fun e => hne e.symm)]
    exact hbk
  have d0 : w2.cell? ⟨b, 0, none⟩ = some (.pointer (some ⟨b, 0, none⟩)) := by rw [Lib.cell_of_heap hb2]; rfl
  have d1 : w2.cell? ⟨b, 1, none⟩ = some v := by rw [Lib.cell_of_heap hb2]; rfl
  have f1 : w2.frozen? ⟨b, 1, none⟩ = false := Lib.frozen_of_heap hb2 1
  have hkk : Lib.OthersKept 5 (some b) w1 w2 := (Lib.OthersKept.refl _ _ w1).grown hgrow (fun g hg => by
    rcases hown.2 with ⟨hv, _⟩ | ⟨g', cap, cur, fz, hv, _, hh, _⟩
    · rw [hv] at hg; cases hg
    · rw [hv] at hg
      cases hg
      exact ⟨cur, fz, hh⟩)
  have hbb : Below B w1 w2 := (Below.refl B w1).grown hgrow (by have := hb1.size; omega) (fun k hk => (hown.lt k hk).1)
  have hcs : Lib.byteCells l ++ Lib.strCells ⟨s.toArray⟩ = Lib.byteCells (l ++ s) := by simp [Lib.byteCells, Lib.strCells]
  obtain ⟨ao, n', cap, rfl⟩ : ∃ ao n' cap, v' = .slice ao n' cap := by
    rcases hown'.2 with ⟨hv, _⟩ | ⟨g, cap, cur, fz, hv, _⟩
    · exact ⟨_, _, _, hv⟩
    · exact ⟨_, _, _, hv⟩
  have Hown' := Lib.hid hown'
  have HKK := Lib.hid (hk1.trans hkk)
  have HB2 := Lib.hid hb2
  have HBB := Lib.hid (hb1.trans hbb)
  clear hown' hgrow hb2 hbb hkk hown hbk hne c0 c1 hk1
  go_wp2_with fail
  go_ret2
  refine ⟨⟨_, rfl⟩, ?_, ?_, ?_⟩
  · refine .inr (Lib.BuilderAtF.put (T := 188) (e := 5) hB HB2.out (bs' := Lib.byteCells (l ++ s)) ?_ neB)
    have := Hown'.out
    rw [hcs] at this
    simpa [Lib.byteCells, ByteArray.size] using this
  · exact HBB.out.setCell (p := ⟨b, 1, none⟩) hB _
  · exact HKK.out.setCell ⟨b, 1, none⟩ rfl _
def ctn (S : Tr) (l : List Nat) : List UInt8 := l.flatMap fun x => match S.at x with | some n => if n.kind = 3 then n.data else [] | none => []
theorem ctn_snoc (S : Tr) (l : List Nat) (x : Nat) (n : Nd) (h : S.at x = some n) : ctn S (l ++ [x]) = ctn S l ++ (if n.kind = 3 then n.data else []) := by
  unfold ctn; rw [List.flatMap_append]; simp [h]
theorem ctn_len {S : Tr} (h : ∀ x n, S.at x = some n → n.data.length ≤ 20000) : ∀ l : List Nat, (ctn S l).length ≤ 20000 * l.length
  | [] => by simp [ctn]
  | x :: l => by
    have h1 := ctn_len h l
    have h2 : ctn S (x :: l) = (match S.at x with | some n => if n.kind = 3 then n.data else [] | none => []) ++ ctn S l := rfl
    rw [h2, List.length_append, List.length_cons]
    have h3 : (match S.at x with | some n => if n.kind = 3 then n.data else [] | none => ([] : List UInt8)).length ≤ 20000 := by
      cases e : S.at x with
      | none => simp
      | some n =>
        have := h x n e
        show (if n.kind = 3 then n.data else []).length ≤ _
        split
        · exact this
        · simp
    omega
theorem trF_u8 {R : Nat} {S : Tr} {sv fv : Value} {w : World} (h : TAt 0 R S sv fv w) {k : Nat} (hk : trF R S sv fv k) : ∃ cur t, w.heap[k]? = some (.cells cur t (0, 0)) ∧ t ≠ 5 := by
  rcases hk with rfl | hk | hk | ⟨i, n, hi, hne, hk⟩
  · exact ⟨_, _, h.blk, by decide⟩
  · obtain ⟨cur, hc⟩ := own_ty h.slots hk
    exact ⟨cur, _, hc, by decide⟩
  · obtain ⟨cur, hc⟩ := own_ty h.free hk
    exact ⟨cur, _, hc, by decide⟩
  · obtain ⟨cur, hc⟩ := attr_blk (h.attrs i n (at_slot hi)) hne hk
    exact ⟨cur, _, hc, by decide⟩
theorem bld_own {B b : Nat} {bs : List Value} {W W' : World} {row : Option Nat} (h : Lib.IsBuilderF 188 5 B b bs W) (hg : W.grownBy W' row) (hr : ∀ r, row = some r → ∃ o : Obj, W.heap[r]? = some o ∧ o.isCells = false) : Lib.IsBuilderF 188 5 B b bs W' := by
  have key : ∀ p, Lib.BuilderAtF 188 5 B b p bs W → Lib.BuilderAtF 188 5 B b p bs W' := fun p ⟨hB, v, hb, hown, hne⟩ => by
    refine ⟨hB, v, (hg.block b (lt_of_block' hb) (fun e => ?_)).trans hb, hown.kept hg ?_, hne⟩
    · obtain ⟨o, ho, hc⟩ := hr b e.symm
      rw [hb] at ho; cases ho; cases hc
    · rcases hown.2 with ⟨hv, _⟩ | ⟨g', cap, cur, fz, hv, _, hh, _⟩
      · rw [hv]; exact .inl rfl
      · rw [hv]
        refine .inr (fun e => ?_)
        obtain ⟨o, ho, hc⟩ := hr g' e.symm
        rw [hh] at ho; cases ho; cases hc
  exact h.elim (fun x => .inl (key _ x)) (fun x => .inr (key _ x))
theorem ok_keeps {b : Nat} {W W' : World} (hs : W.heap.size ≤ W'.heap.size) (h : Lib.OthersKept 5 (some b) W W') (hb : ∃ cs t fr, W.heap[b]? = some (Obj.cells cs t fr)) : KeepsOthers W W' ∧ KpV (fun k o => k = b ∨ ∃ c fz, o = .cells c 5 fz) W W' := by
  refine ⟨⟨hs, fun k o hk ho => h k o hk (fun e => ?_) (fun c fz e => ?_)⟩, hs, fun k cs t fr hk hp => h k _ hk (fun e => hp (.inl (Option.some.inj e))) (fun c fz e => hp (.inr ⟨c, fz, e⟩))⟩
  · cases e
    obtain ⟨cs, t, fr, hb⟩ := hb
    rw [hb] at hk; cases hk; cases ho
  · subst e; cases ho
set_option maxRecDepth 100000 in
set_option maxHeartbeats 8000000 in
theorem content_some {R g cap : Nat} {S : Tr} {fv : Value} {w : World} {K : Nat → List Nat} {d : Nat → Nat} (h : TAt 0 R S (.slice (some ⟨g, 0, none⟩) S.slots.length cap) fv w) (hL : Lk S K d) (i : Nat) (nd : Nd) (hi : S.at i = some nd) (hdt : ∀ x n, S.at x = some n → n.data.length ≤ 20000) (hN : (wlk K (128 - d i) i).length ≤ 10000) :
    Calls Tryz.prog 116 #[.pointer (some ⟨R, 0, none⟩), .int .i64 (S.hd i)] w fun e w' => e = .returned (.string ⟨(ctn S (wlk K (128 - d i) i)).toArray⟩) ∧ Below w.heap.size w w' := by
  refine (callsIn_wide (n := 8)).1 ?_
  refine callsIn_of_wp_marks Tryz.func116 rfl trivial ?_ rfl
  simp only [Tryz.ntmps116, List.size_toArray, List.length_cons, List.length_nil, Nat.reduceAdd, Nat.reduceSub, Array.replicate_succ, Array.replicate_zero, List.push_toArray, List.append_toArray, List.nil_append, List.cons_append]
  refine wpIn_wide.2 ?_
  have k1 := (Blk.new w [.pointer (some ⟨R, 0, none⟩)] 25).alloc (.cells #[.pointer none, .slice none 0 0] 188)
  have k2 := Blk.new (w.alloc (.cells #[.pointer (some ⟨R, 0, none⟩)] 25)) [.pointer none, .slice none 0 0] 188
  rw [show (w.alloc (.cells #[.pointer (some ⟨R, 0, none⟩)] 25)).heap.size = w.heap.size + 1 by simp] at k2
  have hb2 : Below w.heap.size w ((w.alloc (.cells #[.pointer (some ⟨R, 0, none⟩)] 25)).alloc (.cells #[.pointer none, .slice none 0 0] 188)) := ((Below.refl _ _).alloc (Nat.le_refl _) _).alloc (by simp) _
  have hs2 : ((w.alloc (.cells #[.pointer (some ⟨R, 0, none⟩)] 25)).alloc (.cells #[.pointer none, .slice none 0 0] 188)).heap.size = w.heap.size + 2 := by simp
  have c0 := k1.cell 0
  simp only [List.getElem?_cons_zero] at c0
  go_upto_region 2 with fail
  change Blk ((w.alloc (.cells #[.pointer (some ⟨R, 0, none⟩)] 25)).alloc (.cells #[.pointer none, .slice none 0 0] 188)) _ _ _ at k2
  generalize (w.alloc (.cells #[.pointer (some ⟨R, 0, none⟩)] 25)).alloc (.cells #[.pointer none, .slice none 0 0] 188) = w2 at *
  go_wp2_with fail
  refine (walk_any R (S.hd i) w2).mono ?_
  rintro e w4 ⟨rfl, hw4⟩
  have hs4 : w4.heap.size = w.heap.size + 4 := by rw [hw4]; simp [hs2]
  have hb4 : Below w.heap.size w w4 := by rw [hw4]; exact (hb2.alloc hb2.size _).alloc (by simp; omega) _
  have k4 : Blk w4 (w.heap.size + 1) [.pointer none, .slice none 0 0] 188 := by rw [hw4]; exact (k2.alloc _).alloc _
  have hBs : Blk w4 w2.heap.size [.pointer (some ⟨R, 0, none⟩)] 25 := by rw [hw4]; exact (Blk.new w2 [.pointer (some ⟨R, 0, none⟩)] 25).alloc _
  have hBh : Blk w4 (w2.heap.size + 1) [.int .i64 (S.hd i)] 3 := by
    have k2 := Blk.new (w2.alloc (.cells #[.pointer (some ⟨R, 0, none⟩)] 25)) [.int .i64 (S.hd i)] 3
    rw [show (w2.alloc (.cells #[.pointer (some ⟨R, 0, none⟩)] 25)).heap.size = w2.heap.size + 1 by simp] at k2
    rw [hw4]; exact k2
  have k4t : Blk w4 w.heap.size [.pointer (some ⟨R, 0, none⟩)] 25 := by rw [hw4]; exact (k1.alloc _).alloc _
  have hT4 : TAt 0 R S (.slice (some ⟨g, 0, none⟩) S.slots.length cap) fv w4 := h.below hb4
  have h0 : ∀ W, KpV (fun k o => k = w.heap.size + 1 ∨ ∃ c fz, o = .cells c 5 fz) w4 W → TAt 0 R S (.slice (some ⟨g, 0, none⟩) S.slots.length cap) fv W := fun W hk => hT4.wkv hk (fun k cs t fr hF hc hp => by
    rcases hp with e | ⟨c, fz, e⟩
    · obtain ⟨cur, t', h1, _⟩ := trF_u8 h hF
      have := hlt h1
      omega
    · obtain ⟨cur, t', h1, h2⟩ := trF_u8 hT4 hF
      rw [hc] at h1
      cases h1; cases e
      exact h2 rfl)
  have hV : VOk (fun k o => k = w.heap.size + 1 ∨ ∃ c fz, o = .cells c 5 fz) w4.heap.size := fun k cs fr hk hp => by
    rcases hp with e | ⟨c, fz, e⟩
    · omega
    · cases e
  have HS2 := Lib.hid hs2
  have HS4 := Lib.hid hs4
  have HSq := Lib.hid (fun m => walk1_v (n := m) hV h0 hL nd hi ⟨Nat.le_refl _, fun k cs t fr hk _ => hk⟩ hBs hBh)
  have HB4 := Lib.hid hb4
  have HK4 := Lib.hid k4
  have HK4t := Lib.hid k4t
  have HAt := Lib.hid (fun (x : Sl S) W (hW : Below w.heap.size w W) => at_some (h.below hW) (S.hd x.1) (hd_ok hL (Option.some_get x.2).symm).1 (hd_ix hL (Option.some_get x.2).symm))
  have HTt := Lib.hid h
  have HDt := Lib.hid hdt
  clear hw4 hBs hBh k1 k2 hb2 c0 k4 hs2 hs4 k4t hT4 h0 hV h hdt
  go_wp2_with fail
  refine (wpIn_wide (n := 8)).1 ?_
  refine rangeFunc_put (α := Sl S) (fun x a => { tmps := (a.tmps.setIfInBounds 11 (.int .i64 (S.hd x.1))).setIfInBounds 6 (.int .i64 (S.hd x.1)), defers := [] }) (by omega) (gf := 136) (lb := #[.pointer (some ⟨w2.heap.size, 0, none⟩), .pointer (some ⟨w2.heap.size + 1, 0, none⟩)]) rfl (enters_of Tryz.func136 (by kernel_rfl) rfl) (HSq.out 7) KpV.trans (fun W l o o' hl h hc _ => KpV.put l o o' h hc) (fun _ => rfl)
    (fun pre W => Below w.heap.size w W ∧ Lib.IsBuilderF 188 5 (w.heap.size + 1) (w.heap.size + 1) (Lib.byteCells (ctn S (pre.map (·.1)))) W ∧ Blk W w.heap.size [.pointer (some ⟨R, 0, none⟩)] 25) (fun c pre W => False) ?own (fun _ _ _ _ _ hs _ _ => hs) ⟨HB4.out, Lib.IsBuilderF.of (.inl ⟨Nat.le_refl _, .slice none 0 0, HK4.out, World.ownsRow_nil _ _ _ _, by simp [Value.ownBlock]⟩), HK4t.out⟩ ?assign ?body ?done ?stop
  case own =>
    rintro pre W W' row ⟨h1, h2, h3⟩ hg hr
    exact ⟨h1.grown hg h1.size (fun k e => by have := (hr k e).1; have := HS4.out; omega), bld_own h2 hg (fun r e => (hr r e).2), blk_own h3 hg hr⟩
  case assign =>
    intro l x W K hK
    gi_wp2
    exact hK
  case stop =>
    intro D c pre W hD hs hx
    cases hx
  case body =>
    rintro l' pre x W ⟨h1, h2, h3⟩ hlt'
    obtain ⟨n, hn⟩ := Option.isSome_iff_exists.1 x.2
    have cb := h3.cell 0
    simp only [List.getElem?_cons_zero] at cb
    have hpl := ctn_len HDt.out (pre.map (·.1))
    rw [List.length_map] at hpl
    have hnl := HDt.out _ n hn
    have hcs := ctn_snoc S (pre.map (·.1)) x.1 n hn
    have HCs := Lib.hid (show ctn S ((pre ++ [x]).map (·.1)) = ctn S (pre.map (·.1)) ++ (if n.kind = 3 then n.data else []) by rw [List.map_append]; exact hcs)
    have HI1 := Lib.hid h1
    have HI2 := Lib.hid h2
    have HI3 := Lib.hid h3
    have HN := Lib.hid hn
    have HA := Lib.hid (HAt.out x W h1)
    have HBb := Lib.hid (show ∃ cs t fr, W.heap[w.heap.size + 1]? = some (Obj.cells cs t fr) by
      rcases h2 with ⟨_, v, hb, _⟩ | ⟨_, v, hb, _⟩
      · exact ⟨_, _, _, hb⟩
      · exact ⟨_, _, _, hb⟩)
    clear h1 h2 h3 hcs hn
    simp only [List.setIfInBounds_toArray, List.set_cons_zero, List.set_cons_succ]
    gi_wp2_with fail
    refine ⟨trivial, (CallsIn.inRound l' (callsIn_wide.2 HA.out)).mono ?_⟩
    rintro e w5 ⟨rfl, hb5⟩
    have hB5 := HI1.out.trans (hb5.mono HI1.out.size)
    have ck := nd_cell (HTt.out.below hB5) HN.out 0 (by omega)
    have cd := nd_cell (HTt.out.below hB5) HN.out 3 (by omega)
    simp only [ndC, List.getElem?_cons_succ, List.getElem?_cons_zero] at ck cd
    have hbl5 := bld_own HI2.out (grown_of_below hb5) (fun r e => by cases e)
    have HB5 := Lib.hid hB5
    have HI5 := Lib.hid hbl5
    have HK5 := Lib.hid (HI3.out.below hb5)
    have Hb5 := Lib.hid hb5
    clear hB5 hbl5 hb5 cb
    by_cases hk : n.kind = 3
    · rw [hk] at ck
      simp only [strV] at cd
      rw [if_pos hk] at HCs
      have HW := Lib.hid (writeStr_any (w.heap.size + 1) (w.heap.size + 1) (ctn S (pre.map (·.1))) n.data w5 HI5.out (by omega) (by have := HB5.out.size; have := (HK5.out).lt; omega))
      gi_wp2_with fail
      refine ⟨trivial, (CallsIn.inRound l' (callsIn_wide.2 HW.out)).mono ?_⟩
      rintro e w6 ⟨⟨v, rfl⟩, hbl, hb6, hk6⟩
      have hb5' : ∃ cs t fr, w5.heap[w.heap.size + 1]? = some (Obj.cells cs t fr) := by
        obtain ⟨cs, t, fr, hb⟩ := HBb.out
        exact ⟨cs, t, fr, (Hb5.out.block _ (hlt hb)).trans hb⟩
      obtain ⟨q1, q2⟩ := ok_keeps hb6.size hk6 hb5'
      have HQ1 := Lib.hid ((keeps_below Hb5.out).trans q1)
      have HQ2 := Lib.hid ((KpV.below Hb5.out).trans q2)
      have HB6 := Lib.hid (HB5.out.trans (hb6.mono (by omega)))
      have HI6 := Lib.hid hbl
      have HK6 := Lib.hid (show Blk w6 w.heap.size [.pointer (some ⟨R, 0, none⟩)] 25 from hb6.block _ (by omega) |>.trans HK5.out)
      clear hbl hb6 hk6 q1 q2 ck cd
      gi_wp2_with fail
      exact ⟨HQ1.out, HQ2.out, HB6.out, by rw [HCs.out]; exact HI6.out, HK6.out⟩
    · have hk' : (n.kind == 3) = false := by simpa using hk
      rw [if_neg hk, List.append_nil] at HCs
      gi_wp2_with fail
      exact ⟨keeps_below Hb5.out, KpV.below Hb5.out, HB5.out, by rw [HCs.out]; exact HI5.out, HK5.out⟩
  case done =>
    rintro D ys W hD hys ⟨h1, hI, h2⟩ hK
    rw [hys] at hI
    have hWl := h2.lt
    have hDl := hlt hK
    have HK := Lib.hid hK
    have H1 := Lib.hid h1
    have HI := Lib.hid hI
    have hsz : w.heap.size + 1 ≤ W.heap.size := by omega
    clear hI h1 h2 hK HSq hys
    go_wp2_with fail
    refine (Tryz.Builder_String_any_k (w.heap.size + 1) (w.heap.size + 1) _ W HI.out (by omega)).mono ?_
    rintro e w5 ⟨rfl, _, hb5, ho5⟩
    have hD5 : w5.heap[D]? = some (.deferred (some [])) := ho5 D _ HK.out (by simp; have := HS4.out; omega) (fun c fz e => by cases e)
    have HB5 := Lib.hid (H1.out.trans (hb5.mono (by omega)))
    have hDl5 := hlt hD5
    go_wp2_with fail
    refine one_mark hD5 ?_
    refine ⟨.string ⟨(ctn S (wlk K (128 - d i) i)).toArray⟩, ?_, rfl, below_put _ HB5.out (by have := HS4.out; omega) hDl5⟩
    simp [results, Tryz.f116, go_sem]
end Go.Proofs.YtacdbnhnhdlmpaaGreatDoor.W
end
section
namespace Go.Proofs.YtacdbnhnhdlmpaaGreatDoor.W
open Go.RowKit
def hds (S : Tr) (N : Nat) : List Int := (List.range N).map fun i => S.hd (i + 1)


theorem tree_newA {B : Nat} {w0 w : World} {l : List Ob} (h : All B w0 l w) (b s : Int) :
    Calls Tryz.prog 55 #[.agg #[.int .i64 b, .int .i64 s]] w fun e w' => ∃ R sv, e = .returned (.pointer (some ⟨R, 0, none⟩)) ∧ All B w0 (trO R (newT b s) sv (.slice none 0 0) :: l) w' := by
  refine (tree_new b s w).mono ?_
  rintro e w' ⟨R, sv, rfl, hT, hb⟩
  refine ⟨R, sv, rfl, h.new ⟨hT.blk, own_low hT.slots (Nat.zero_le _), own_low hT.free (Nat.zero_le _), fun i n hi => ?_, Nat.zero_le _, hT.few⟩ hb (fun k hk => ?_)⟩
  · obtain ⟨a, c, e, h'⟩ := hT.attrs i n hi
    exact ⟨a, c, e, h'.imp id fun ⟨g, cur, e1, _, r⟩ => ⟨g, cur, e1, Nat.zero_le _, r⟩⟩
  · rcases hk with rfl | hk | hk | ⟨i, n, hi, hne, hk⟩
    · exact hT.base
    · exact (hT.slots.lt k hk).1
    · cases hk
    · obtain ⟨a, c, e, h'⟩ := hT.attrs i n (at_slot hi)
      rcases h' with h' | ⟨g, cur, rfl, hg, _⟩
      · exact absurd h' hne
      · rw [e] at hk; cases hk; exact hg
theorem mkT_no {B R : Nat} {S : Tr} {sv fv : Value} {w : World} (h : TAt B R S sv fv w) (kind : Int) (h2 : kind ≠ 2) (h3 : kind ≠ 3) (h4 : kind ≠ 4) (name data : List UInt8) (v : Value) (al : List Atr) :
    Calls Tryz.prog 56 #[.pointer (some ⟨R, 0, none⟩), .int .i64 kind, .string ⟨name.toArray⟩, .string ⟨data.toArray⟩, v] w (MakTR B R S sv fv w kind name data al) := by
  have HT := Lib.hid h
  have HM := Lib.hid (MakT.kind (W := w.heap.size) (S := S) (name := name) (data := data) (al := al) h2 h3 h4)
  have d2 : (kind == 2) = false := by simpa using h2
  have d3 : (kind == 3) = false := by simpa using h3
  have d4 : (kind == 4) = false := by simpa using h4
  clear h h2 h3 h4
  go_enter Tryz.func56, Tryz.ntmps56
  go_wp2_with fail
  go_ret2
  exact MakTR.same HT.out ((Below.refl _ _).alloc (Nat.le_refl _) _) HM.out
theorem mkT_any {B R : Nat} {S : Tr} {sv fv : Value} {w : World} (h : TAt B R S sv fv w) (hT : Laid w) (hfr : ∀ i ∈ S.free, S.slots[i]? = some none) (hfl : S.free.length ≤ 1000000) (hl : S.slots.length < 20000) (kind : Int) (name data : List UInt8) (hn : name.length ≤ 1000) (hd : data.length ≤ 1000) (v : Value) (al : List Atr) (hv : Own w 85 2 v al.length (attrC al)) (hal : al.length ≤ 100) (has : ∀ a ∈ al, a.1.length ≤ 1000 ∧ a.2.length ≤ 1000) :
    Calls Tryz.prog 56 #[.pointer (some ⟨R, 0, none⟩), .int .i64 kind, .string ⟨name.toArray⟩, .string ⟨data.toArray⟩, v] w (MakTR B R S sv fv w kind name data al) := by
  by_cases h2 : kind = 2
  · subst h2; exact mkT_el h hT hfr hfl hl name data hn v al hv hal has
  by_cases h3 : kind = 3
  · subst h3; exact mkT_3 h hT hfr hfl hl name data hd v al
  by_cases h4 : kind = 4
  · subst h4; exact mkT_4 h hT hfr hfl hl name data hd v al
  exact mkT_no h kind h2 h3 h4 name data v al
end Go.Proofs.YtacdbnhnhdlmpaaGreatDoor.W
end
