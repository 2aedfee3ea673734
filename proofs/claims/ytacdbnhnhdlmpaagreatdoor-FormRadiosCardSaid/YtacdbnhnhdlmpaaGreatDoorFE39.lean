/- Texts joined: LwE LaidW. -/
import Derived.Test.YtacdbnhnhdlmpaaGreatDoorFE38
import Derived.Test.YtacdbnhnhdlmpaaGreatDoorFE12
import Derived.Test.YtacdbnhnhdlmpaaGreatDoorFE29
import Derived.Test.YtacdbnhnhdlmpaaGreatDoorCards
import Derived.Test.YtacdbnhnhdlmpaaGreatDoorTie
import Derived.Shelf.Vars
import Derived.Lib.LaidU8T
import Derived.Shelf.Unicode.ValidAny
import Derived.Lib.LaidIn
import Derived.Deep.DeepHandedRow
import Derived.Deep.DeepWitnessRowRef
import Derived.SizedLaws
set_option maxRecDepth 100000
set_option maxHeartbeats 40000000
set_option linter.unusedVariables false
set_option linter.unusedSimpArgs false
section
namespace Go.Proofs.YtacdbnhnhdlmpaaGreatDoor.W
open Go.RowKit
section
variable {B : Nat} {w0 w : World} {Q Z : Nat} {ar : Bool} {foc hd : Int} {v : List UInt8} {l : List Ob} {F : FT} {E : RE} {L : List (Value × List (Mo × Mo))}
theorem FeAt.edc (h : FeAt B w0 Q Z ar foc hd v l F E L w) : ∃ ua un uc ra rn rc, Blk w Z [.bool ar, .string ⟨E.now.val.toArray⟩, .int .i64 (E.now.st : Int), .int .i64 (E.now.en : Int), .slice ua un uc, .slice ra rn rc] 51 := by
  obtain ⟨uv, rv, h1, hu, hr⟩ := h
  have hL : ∀ p ∈ L, Rd w p.1 p.2 := h1.rest.tail.head
  obtain ⟨ua, uc, e1⟩ := (hL _ hu).shape
  obtain ⟨ra, rc, e2⟩ := (hL _ hr).shape
  simp only at e1 e2
  subst e1 e2
  exact ⟨_, _, _, _, _, _, h1.rest.head⟩
theorem FeAt.start (h : FsAt B w0 Q foc hd v l F w) (ar : Bool) (m : Mo) : FeAt B w0 Q w.heap.size ar foc hd v l F ⟨m, [], []⟩ [(.slice none 0 0, [])] (w.alloc (.cells (edC ar ⟨m, [], []⟩ (.slice none 0 0) (.slice none 0 0)).toArray 51)) := by
  have h1 := h.new (o := co [(.slice none 0 0, [])]) (w' := w) (fun p hp => by
    obtain rfl := List.mem_singleton.1 hp
    exact Rd.nil w) (Below.refl _ _) (fun k ⟨p, hp, hk⟩ => by
    obtain rfl := List.mem_singleton.1 hp
    exact hk.elim)
  refine ⟨.slice none 0 0, .slice none 0 0, ?_, List.mem_singleton.2 rfl, List.mem_singleton.2 rfl⟩
  exact h1.new (Blk.new w (edC ar ⟨m, [], []⟩ (.slice none 0 0) (.slice none 0 0)) 51) ((Below.refl _ _).alloc (Nat.le_refl _) _) (fun k hk => Nat.le_of_eq hk.symm)
end
set_option maxRecDepth 100000 in
set_option maxHeartbeats 40000000 in
theorem edits_any (w : World) (hT : Laid w) (area : Bool) (x : List UInt8) (hxs : (⟨x.toArray⟩ : ByteArray).size ≤ 9223372036854775807) (A : Option Addr) (n c : Nat) (f : Nat → OpF) (h : InF w A n f) (hn : n ≤ 9223372036854775807) (hf : ∀ j, (f j).In) :
    Calls Tryz.prog 4 #[.bool area, .string ⟨x.toArray⟩, .slice A n c] w fun e w' => e = .returned (.bool true) ∧ Below w.heap.size w w' := by
  have hL : ∀ wx, Below w.heap.size w wx → Laid wx := fun wx hb => hT.below hb
  have HL := Lib.hid hL
  have HAw := Lib.hid (fun wx (hb : Below w.heap.size w wx) => awake_any wx (hT.below hb))
  have HFw := Lib.hid (fun wx (hb : Below w.heap.size w wx) => few_any x hxs A n c f (h.below hb) hn)
  have HIn := Lib.hid (fun wx (hb : Below w.heap.size w wx) => h.below hb)
  have HOp := Lib.hid hf
  clear h hT hL hf
  go_enter Tryz.func4, Tryz.ntmps4
  go_wp2_with fail
  refine (HAw.out _ (Below.refl _ _)).mono ?_
  rintro e w1 ⟨rfl, hb1⟩
  go_wp2_with fail
  refine (HFw.out _ hb1).mono ?_
  rintro e w2 ⟨b, rfl, hfew, rfl⟩
  cases b with
  | false =>
    go_wp2_with fail
    refine (HAw.out _ hb1).mono ?_
    rintro e w3 ⟨rfl, hb3⟩
    go_wp2_with fail
    go_ret
    exact ⟨rfl, bthen hb1 hb3⟩
  | true =>
  obtain ⟨hx, hn150, hfl⟩ := hfew rfl
  have HFl := Lib.hid hfl
  clear hfew HFw HAw hxs hn hfl
  have HS := Lib.hid (single_any ((All.start w).still hb1) HL.out area x hx)
  go_wp2_with fail
  refine HS.out.mono ?_
  rintro e w3 ⟨R, S, sv, fv, K, d, rfl, hA3, hg⟩
  have hF : FdOk w.heap.size w R (trO R S sv fv) (S.hd 2) (if area then 2 else 1) (fix x) := sg_fd area hg
  obtain ⟨hk, hka⟩ := sg_k area
  have hvd : Vd (fix x) := by rw [fix_rfix]; exact rfix_rfix x
  have hvl : (fix x).length ≤ 180 := by have := fix_len3 x; omega
  have hQ0 := hA3.newBkA w3.heap.size rfl [.slice none 0 0, .int .i64 0] 30
  have hQ := FsAt.start hQ0 (S.hd 2) (fix x)
  have HBg := Lib.hid (begun_any (show TAt 0 R S sv fv _ from hQ.rest.head) hg hx)
  clear hg HS hb1 hQ0
  generalize hkk : (if area then 2 else 1 : Nat) = kk at *
  generalize trO R S sv fv = O at *
  generalize S.hd 2 = hd at *
  generalize fix x = dv at *
  have HF := Lib.hid hF
  have HQ := Lib.hid hQ
  clear hA3 hQ hF hkk
  generalize hQe : w3.heap.size = Q at *
  go_wp2_with fail
  refine HBg.out.mono ?_
  rintro e w4 ⟨rfl, hb4⟩
  have hE4 := FeAt.start (HQ.out.still hb4) area ⟨dv, nL dv, nL dv⟩
  have HE4 := Lib.hid hE4
  have HAg := Lib.hid (fun k (hk : k ≤ n) => Ag.ops (Ag.of hvd (show dv.length ≤ 300 by omega)) area f (by omega) k (fun j hj => HFl.out j (by omega)))
  have hdv7 : dv.length ≤ 10000000 := by omega
  clear hE4 hb4 HQ HBg hQe
  simp only [edC, strV] at HE4 ⊢
  go_wp2_with fail
  generalize w4.heap.size = Z at *
  go_loopw [33] (fun iv wr => ∃ (k : Nat) (L : List (Value × List (Mo × Mo))), k ≤ n ∧ iv = .int .i64 (k : Int) ∧ FeAt w.heap.size w Q Z area 0 hd dv [O] ((FT.of dv).ops area f k) (RE.ops area ⟨⟨dv, nL dv, nL dv⟩, [], []⟩ f k) L wr) (fun iv _ => n - (intOf iv).toNat)
  case atStart => exact ⟨0, _, Nat.zero_le _, rfl, HE4.out⟩
  case round =>
    obtain ⟨k, L, hkn, rfl, hS⟩ := hrel
    have hag := HAg.out k hkn
    have HnF := Lib.hid (show (FT.of dv).ops area f (k + 1) = ((FT.of dv).ops area f k).op area (f k) from rfl)
    have HnE := Lib.hid (show RE.ops area ⟨⟨dv, nL dv, nL dv⟩, [], []⟩ f (k + 1) = (RE.ops area ⟨⟨dv, nL dv, nL dv⟩, [], []⟩ f k).op area (f k) from rfl)
    generalize (FT.of dv).ops area f k = F at *
    generalize RE.ops area ⟨⟨dv, nL dv, nL dv⟩, [], []⟩ f k = E at *
    obtain ⟨ua, un, uc, ra, rn, rc, hed⟩ := hS.edc
    rw [hag.val, hag.st, hag.en] at hed
    have c0 := hed.cell 0
    have c1 := hed.cell 1
    have c2 := hed.cell 2
    have c3 := hed.cell 3
    have c4 := hed.cell 4
    have c5 := hed.cell 5
    simp only [List.getElem?_cons_zero, List.getElem?_cons_succ] at c0 c1 c2 c3 c4 c5
    obtain ⟨l1, hml, hFs, _⟩ := hS.fs
    have hfn := hag.n
    have HSm := Lib.hid (same_one hFs (hml O (by simp)) HF.out hk hag.le hag.in_ (by omega) area ua ra un uc rn rc)
    have HSt := Lib.hid hS
    clear hed hFs hml hS
    by_cases hkl : k < n
    · have HAc := Lib.hid (fun wx (hb : Below wr.heap.size wr wx) => act_any (HSt.out.still hb) (by simp) HF.out hk hka hdv7 HL.out hag (by omega) (f k) (HOp.out k) (HFl.out k hkl))
      have HBw := Lib.hid HSt.out.below
      obtain ⟨gb, off, rfl, hgb, hc⟩ := HIn.out w (Below.refl _ _) (by omega)
      obtain ⟨q0, q1, q2, q3⟩ := hc k hkl
      clear hc hag
      go_wp2_with fail
      refine HSm.out.mono ?_
      rintro e w5 ⟨rfl, hb5⟩
      have hbw5 := bthen HBw.out hb5
      have q0 := cell_keep hbw5 q0
      have q1 := cell_keep hbw5 q1
      have q2 := cell_keep hbw5 q2
      have q3 := cell_keep hbw5 q3
      have HA5 := Lib.hid (HAc.out _ hb5)
      clear hbw5 hb5 HAc HSm
      go_wp2_with fail
      refine HA5.out.mono ?_
      rintro e w6 ⟨rfl, L6, _, h6⟩
      rw [← HnF.out, ← HnE.out] at h6
      have H6 := Lib.hid h6
      clear h6 HA5
      go_wp2_with fail
      go_roundw
      case rel => exact ⟨k + 1, L6, by omega, by go_num, H6.out⟩
      case measure => simp [intOf]; omega
    · obtain rfl : k = n := by omega
      clear hag
      go_wp2_with fail
      refine HSm.out.mono ?_
      rintro e w5 ⟨rfl, hb5⟩
      have HB := Lib.hid (bthen HSt.out.below hb5)
      clear hb5
      go_wp2_with fail
      go_ret
      exact ⟨rfl, HB.out⟩
end Go.Proofs.YtacdbnhnhdlmpaaGreatDoor.W
end
section
namespace Go.Proofs.YtacdbnhnhdlmpaaGreatDoor.W
open Go.ChangeShapes Go.WideShapes Go.ChangeAt Go.RowKit Go.Joins Go.Shelf
def lst : List (String × DataW Unit) := [("unicode/utf8.acceptRanges", Rows.laid_unicode_utf8_acceptRanges), ("unicode/utf8.first", Rows.laid_unicode_utf8_first)]
theorem first_eq : Rows.laid_unicode_utf8_first = Lib.firstData := by kernel_rfl
theorem accept_eq : (Rows.laid_unicode_utf8_acceptRanges : DataW Unit) = Lib.acceptData := by kernel_rfl
set_option maxRecDepth 100000 in
theorem laid_of {w : World} (h : laidMetH Tryz.prog lst w) (hs : w.ShapedOpen Tryz.prog) : Laid w := by
  have h1 := Lib.laidMet.reads h (.tail _ (.head _))
  have h2 := Lib.laidMet.reads h (.head _)
  rw [first_eq] at h1
  rw [accept_eq] at h2
  exact ⟨utf8Tabs_of_readsT (U8Types.of196 Tryz.laysValid) ⟨by kernel_rfl, by kernel_rfl, by kernel_rfl, by kernel_rfl, by kernel_rfl, by kernel_rfl, by kernel_rfl⟩ h1 h2⟩
noncomputable def laidWorld (os : Os) : World :=
  let w0 := World.holding Tryz.prog os ⟨#[], #[], []⟩
  let put (h : Array Obj) (g : Nat) (cs : Array Value) : Array Obj := h.modify g fun
    | .cells _ t frozen => .cells cs t frozen
    | o => o
  let h1 := put w0.heap 0 (Lib.firstTab.map fun z => Value.int .u8 z).toArray
  let h2 := put h1 1 ((List.range 16).flatMap fun i => [Value.int .u8 (Lib.accLo i), Value.int .u8 (Lib.accHi i)]).toArray
  { w0 with heap := h2 }
theorem laid_met (os : Os) (args : Array Value) : laidMet Tryz.prog lst ((laidWorld os).forCall (fun _ _ => 0) ⟨#[], args, []⟩).memory :=
  (LaidIn.of_run (l := lst) [0, 1] 8 (by kernel_rfl) (by kernel_rfl) (by kernel_rfl) (by kernel_rfl)).met
end Go.Proofs.YtacdbnhnhdlmpaaGreatDoor.W
end
