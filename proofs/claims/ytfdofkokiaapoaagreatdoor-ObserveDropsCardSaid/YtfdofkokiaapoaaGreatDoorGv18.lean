/- Texts joined: Same Close OpenM Two. -/
import Derived.Test.YtfdofkokiaapoaaGreatDoorGv10
import Derived.Test.YtfdofkokiaapoaaGreatDoorRows
import Derived.WalkKit
import Derived.ProofKit
import Derived.OpenShut
import Derived.Lib.SmallJoins
import Derived.Deep.Slices
import Derived.Test.YtfdofkokiaapoaaGreatDoorGv16
import Derived.Test.YtfdofkokiaapoaaGreatDoorGv17
section
/- Same at two lists of equal records; Few. -/
namespace Go.Proofs.YtfdofkokiaapoaaGreatDoor.W
open Go.RowKit
set_option linter.unusedVariables false
set_option linter.unusedSimpArgs false

theorem r_cells {w : World} {v : Value} {l : List Rc} (h : Own w 86 11 v l.length (rows encR l)) {k : Nat} {r : Rc} (hr : l[k]? = some r) : ∃ g c, v = .slice (some ⟨g, 0, none⟩) l.length c ∧ g < w.heap.size ∧
    (w.cell? ⟨g, k * 11, none⟩ = some (.int .i64 r.kind) ∧ w.cell? ⟨g, k * 11 + 1, none⟩ = some (.int .i64 r.target) ∧ w.cell? ⟨g, k * 11 + 2, none⟩ = some (.int .i64 r.node) ∧ w.cell? ⟨g, k * 11 + 3, none⟩ = some (.int .i64 r.prev) ∧ w.cell? ⟨g, k * 11 + 4, none⟩ = some (.int .i64 r.next) ∧ w.cell? ⟨g, k * 11 + 5, none⟩ = some (.int .i64 r.index) ∧
     w.cell? ⟨g, k * 11 + 6, none⟩ = some (.string ⟨r.name.toArray⟩) ∧ w.cell? ⟨g, k * 11 + 7, none⟩ = some (.string ⟨r.old.toArray⟩) ∧ w.cell? ⟨g, k * 11 + 8, none⟩ = some (.bool r.had) ∧ w.cell? ⟨g, k * 11 + 9, none⟩ = some (.int .i64 r.count) ∧ w.cell? ⟨g, k * 11 + 10, none⟩ = some (.int .i64 r.size)) := by
  have hk := (List.getElem?_eq_some_iff.1 hr).1
  obtain ⟨g, c, rfl, _⟩ := own_some h (by omega)
  have hq : ∀ j, j < 11 → w.cell? ⟨g, k * 11 + j, none⟩ = (encR r)[j]? := fun j hj => by
    rw [h.cellAt (k * 11 + j) (by omega)]
    exact rows_at (enc := encR) encR_len l k r hr j hj
  exact ⟨g, c, rfl, own_lt h (k := g) rfl, hq 0 (by omega), hq 1 (by omega), hq 2 (by omega), hq 3 (by omega), hq 4 (by omega), hq 5 (by omega), hq 6 (by omega), hq 7 (by omega), hq 8 (by omega), hq 9 (by omega), hq 10 (by omega)⟩

def SmR (w : World) (n : Nat) (iv : Value) (wr : World) : Prop := ∃ k m : Nat, k ≤ n ∧ iv = .int .i64 (k : Int) ∧ wr = w.drewN m
set_option maxRecDepth 100000 in
set_option maxHeartbeats 4000000 in
theorem same_any {w : World} {v1 v2 : Value} {L : List Rc} (h1 : Own w 86 11 v1 L.length (rows encR L)) (h2 : Own w 86 11 v2 L.length (rows encR L)) (hl : L.length ≤ 1000000) :
    Calls Tryz.prog 15 #[v1, v2] w fun e w' => e = .returned (.bool true) ∧ ∃ m, w' = w.drewN m := by
  obtain ⟨a1, c1, rfl⟩ := own_shape h1
  obtain ⟨a2, c2, rfl⟩ := own_shape h2
  have H1 := Lib.hid h1
  have H2 := Lib.hid h2
  clear h1 h2
  go_enter Tryz.func15, Tryz.ntmps15
  go_wp2_with fail
  go_loopw [13] (fun iv wr => SmR w L.length iv wr) (fun iv _ => L.length - (intOf iv).toNat)
  case atStart => exact ⟨0, 0, Nat.zero_le _, rfl, rfl⟩
  case round =>
    obtain ⟨k, m, hk, rfl, rfl⟩ := hrel
    by_cases hkl : k < L.length
    · obtain ⟨y, hy⟩ : ∃ y, L[k]? = some y := ⟨_, List.getElem?_eq_getElem hkl⟩
      obtain ⟨g1, k1, he, qlt, q0, q1, q2, q3, q4, q5, q6, q7, q8, q9, q10⟩ := r_cells H1.out hy
      simp only [Value.slice.injEq, true_and] at he
      obtain ⟨rfl, rfl⟩ := he
      obtain ⟨g2, k2, he, plt, p0, p1, p2, p3, p4, p5, p6, p7, p8, p9, p10⟩ := r_cells H2.out hy
      simp only [Value.slice.injEq, true_and] at he
      obtain ⟨rfl, rfl⟩ := he
      obtain ⟨y0, y1, y2, y3, y4, y5, y6, y7, y8, y9, y10⟩ := y
      simp only at q0 q1 q2 q3 q4 q5 q6 q7 q8 q9 q10 p0 p1 p2 p3 p4 p5 p6 p7 p8 p9 p10
      generalize (⟨y6.toArray⟩ : ByteArray) = s6 at *
      generalize (⟨y7.toArray⟩ : ByteArray) = s7 at *
      clear hy
      go_wp2_with fail
      go_quiet (fail)
      go_wp2_with fail
      go_roundw
      case rel => exact ⟨k + 1, _, by omega, by go_num, rfl⟩
      case measure => simp [intOf]; omega
    · go_wp2_with fail
      go_ret
      exact ⟨rfl, _, rfl⟩
end Go.Proofs.YtfdofkokiaapoaaGreatDoor.W
end
section
/- The last step of every law: where the call returns true and nothing that was there has changed, the law's row holds. No function in sight. -/
namespace Go.Proofs.YtfdofkokiaapoaaGreatDoor.W
open Go.ChangeShapes Go.WideShapes Go.ChangeAt Go.RowKit Go.Joins

theorem own : ownKnob Tryz.prog.godebug = none := by kernel_rfl
theorem laidOut : laidOutB Tryz.prog = true := by kernel_rfl

theorem trodAll_stays {H : Type} {enc : TypeId × Value → H} {P : Program} (hl : laidOutB P = true) {W W' : World} (hb : Below W.heap.size W W') {sp : Nat → Bool} :
    ∀ {ts : List TypeId} {vs : List Value} {ds : List (DataW H)} {ps : List MemPlace}, (∀ t ∈ ts, P.readableRec t = true ∧ t < P.types.size) →
      DataW.TrodAll enc P W 0 (fun _ => true) true ts vs ds ps → (∀ p ∈ ps, p.block < W.heap.size) → (∀ p ∈ ps, sp p.block = true) → DataW.TrodAll enc P W' 0 sp true ts vs ds ps
  | [], [], [], _, _, h, _, _ => h
  | [], _ :: _, _, _, _, h, _, _ => h.elim
  | [], [], _ :: _, _, _, h, _, _ => h.elim
  | _ :: _, [], _, _, _, h, _, _ => h.elim
  | _ :: _, _ :: _, [], _, _, h, _, _ => h.elim
  | t :: ts, v :: vs, d :: ds, ps, hT, ⟨p, q, h1, h2, e⟩, hlt, hs => by
    subst e
    obtain ⟨hr, hrow⟩ := hT t (by simp)
    exact ⟨p, q, WideElems.Trod_stays hl hr hrow h1 (fun x hx => hb.same (hlt x (by simp [hx]))) (fun x hx => hs x (by simp [hx])),
      trodAll_stays hl hb (fun t ht => hT t (by simp [ht])) h2 (fun x hx => hlt x (by simp [hx])) (fun x hx => hs x (by simp [hx])), rfl⟩

/-- true, and nothing that was there has changed -/
def Holds (w : World) (e : Ending) (w' : World) : Prop := e = .returned (.bool true) ∧ Below w.heap.size w w'

section
variable {H : Type} {enc : TypeId × Value → H} {P : Program}
theorem post_of_below {f : Func} {s : ChangeSpec} {apart fresh handsOn again : Bool} {W W' : World} {args : Array Value} {v : Value} {ds gs : List (DataW H)} {before pa pv : List MemPlace}
    (hW : DataW.Whole enc P f.params.toList s.vars apart W args.toList ds gs before)
    (hres : ∀ (b : Nat) (sp : Nat → Bool) (hd : Bool), DataW.TrodAll enc P W' b sp hd f.resultTypes.toList (v.resultList f.resultTypes.size) (s.fn H (ds ++ gs)).results [])
    (hargs : ∀ sp : Nat → Bool, (∀ p ∈ before, sp p.block = true) → DataW.TrodAll enc P W' 0 sp true f.params.toList args.toList (s.fn H (ds ++ gs)).args pa)
    (hvars : ∀ sp : Nat → Bool, (∀ p ∈ before, sp p.block = true) → DataW.TrodVars enc P W' sp s.vars (s.fn H (ds ++ gs)).vars pv)
    (hps : before = pa ++ pv) (hb : Below W.heap.size W W')
    (hok : ∀ (j : Nat) (t : TypeId) (r : Value), f.resultTypes[j]? = some t → (v.resultList f.resultTypes.size)[j]? = some r → Value.okWide P W' .any 0 t r) :
    s.post enc P f apart fresh handsOn again W args v W' := by
  have hlt : ∀ p ∈ before, p.block < W.heap.size := fun p hp => hW.lt p hp
  have hold : ∀ p ∈ before, (fun b => decide (b < W.heap.size)) p.block = true := fun p hp => by simpa using hlt p hp
  refine ⟨ds, gs, before, [], pa, pv, hW, hres _ _ _, hargs _ hold, hvars _ hold, World.keptBut_mono (fun p hp => ⟨hp, ?_⟩) (hb.frame (· ∈ before)), fun _ => ?_⟩
  · rw [hps, List.mem_append] at hp
    exact Or.inr hp
  · obtain ⟨_, _, _, _, _, hz, hn⟩ := hW
    refine ⟨hok, _, _, ([] ++ pa) ++ pv, ⟨[] ++ pa, pv, trodAll_append (hargs _ (fun _ _ => rfl)) (hres _ _ _), hvars _ (fun _ _ => rfl), rfl, ?_, ?_⟩, ?_⟩
    · intro b off hp
      have hin : MemPlace.cell b off ∈ before := by rw [hps]; simpa using hp
      rw [hb.frozen (hlt _ hin)]
      exact hz b off hin
    · intro ha
      have := hn ha
      rw [hps] at this
      simpa using this
    · intro p hp _
      rw [hps]
      simpa using hp

/-- the row's post, out of the walk's -/
theorem law_post {f : Func} {s : ChangeSpec} {fresh handsOn again : Bool} {W W' : World} {args : Array Value} {ds gs : List (DataW H)} {before : List MemPlace} {tb : TypeId}
    (hl : laidOutB P = true) (hT : ∀ t ∈ f.params.toList, P.readableRec t = true ∧ t < P.types.size)
    (hr : f.resultTypes = #[tb]) (htb : P.underlying tb = some .bool) (hv : s.vars = [])
    (hfn : (s.fn H (ds ++ gs)).results = [.lit (.bool true)]) (hfa : (s.fn H (ds ++ gs)).args = ds) (hfv : (s.fn H (ds ++ gs)).vars = [])
    (hW : DataW.Whole enc P f.params.toList s.vars false W args.toList ds gs before) (hb : Below W.heap.size W W') :
    s.post enc P f false fresh handsOn again W args (.bool true) W' := by
  have hlt : ∀ p ∈ before, p.block < W.heap.size := fun p hp => hW.lt p hp
  have hW' := hW
  obtain ⟨p, q, hA, hV, rfl, _, _⟩ := hW
  rw [hv] at hV
  obtain ⟨rfl, rfl⟩ := trodVars_none hV
  simp only [List.append_nil] at *
  refine post_of_below (pa := p) (pv := []) hW' (fun _ _ _ => ?_) (fun sp hs => ?_) (fun sp _ => ?_) (by simp) hb (ok_one hr rfl (okWide_bool_mk htb _))
  · rw [hr]
    simp only [List.append_nil]
    rw [hfn]
    exact trodAll_cons_mk (shut_bool htb _) trodAll_mk0
  · simp only [List.append_nil]
    rw [hfa]
    exact trodAll_stays hl hb hT hA hlt hs
  · simp only [List.append_nil]
    rw [hv, hfv]
    rfl
end
end Go.Proofs.YtfdofkokiaapoaaGreatDoor.W
end
section
/- Arguments opened: bytes, operations; Few. -/
namespace Go.Proofs.YtfdofkokiaapoaaGreatDoor.W
open Go.ChangeShapes Go.WideShapes Go.ChangeAt Go.RowKit Go.Joins Go.Deep
set_option linter.unusedVariables false
set_option linter.unusedSimpArgs false

/-- the bytes of a slice -/
def InB (w : World) (A : Option Addr) (n : Nat) (f : Nat → Int) : Prop := 0 < n → ∃ b off, A = some ⟨b, off, none⟩ ∧ b < w.heap.size ∧ ∀ j, j < n → w.cell? ⟨b, off + j, none⟩ = some (.int .u8 (f j))
/-- an operation -/
structure Opn where
  kd : Int
  a : Int
  b : Int
  c : Int
  s : ByteArray
def Opn.ok (q : Opn) : Prop := (0 ≤ q.kd ∧ q.kd ≤ 255) ∧ (0 ≤ q.a ∧ q.a ≤ 255) ∧ (0 ≤ q.b ∧ q.b ≤ 255) ∧ (0 ≤ q.c ∧ q.c ≤ 255)
def InO (w : World) (A : Option Addr) (n : Nat) (f : Nat → Opn) : Prop := 0 < n → ∃ b off, A = some ⟨b, off, none⟩ ∧ b < w.heap.size ∧ ∀ j, j < n →
  w.cell? ⟨b, off + j * 5, none⟩ = some (.int .u8 (f j).kd) ∧ w.cell? ⟨b, off + j * 5 + 1, none⟩ = some (.int .u8 (f j).a) ∧ w.cell? ⟨b, off + j * 5 + 2, none⟩ = some (.int .u8 (f j).b) ∧ w.cell? ⟨b, off + j * 5 + 3, none⟩ = some (.int .u8 (f j).c) ∧ w.cell? ⟨b, off + j * 5 + 4, none⟩ = some (.string (f j).s)
theorem byte_in {x : Int} (h : (Lit.int .u8 x).wf = true) : 0 ≤ x ∧ x ≤ 255 := by
  have := bounds_u8 h
  omega

section
variable {H : Type} {enc : TypeId × Value → H} {P : Program} {w : World}
theorem open_bytes {r : Reach} {b0 : Nat} {t e : TypeId} {v : Value} {d : DataW H} {ps : List MemPlace} (ht : P.underlying t = some (.slice e)) (he : P.underlying e = some (.int .u8)) (hc : P.cellsOf e = 1)
    (hval : Value.okWide P w r b0 t v) (h : DataW.Trod enc P w 0 (fun _ => true) true t v d ps) :
    ∃ A n c, ∃ f : Nat → Int, v = .slice A n c ∧ n ≤ 9223372036854775807 ∧ InB w A n f ∧ ∀ j, 0 ≤ f j ∧ f j ≤ 255 := by
  obtain ⟨A, n, c, rfl⟩ := okWide_slice ht hval
  obtain ⟨fuel, hf⟩ := h
  rcases open_ints ht he hc hf with ⟨hcs, _⟩ | ⟨a, len, cap, zs, hcs, _, hl, hmx, hzl, _, hcell, hwf⟩
  · simp [Value.cells] at hcs
    obtain ⟨rfl, rfl, rfl⟩ := hcs
    exact ⟨none, 0, 0, fun _ => 0, rfl, Nat.zero_le _, fun h => absurd h (by omega), fun _ => by simp⟩
  · simp [Value.cells] at hcs
    obtain ⟨rfl, rfl, rfl⟩ := hcs
    simp only [if_true] at hzl
    refine ⟨some a, n, c, fun j => zs.getD j 0, rfl, by unfold maxLen at hmx; omega, fun hn => ?_, fun j => byte_in ?_⟩
    · obtain ⟨b, off, rfl, hc⟩ := ints_at hcell (by omega)
      exact ⟨b, off, rfl, World.block_lt_of_cell? _ _ (hc 0 (by omega)), fun j hj => hc j (by omega)⟩
    · show (Lit.int .u8 (zs.getD j 0)).wf = true
      by_cases hj : j < zs.length
      · rw [List.getD_eq_getElem?_getD, List.getElem?_eq_getElem hj]
        exact hwf _ (List.getElem_mem hj)
      · rw [List.getD_eq_getElem?_getD, List.getElem?_eq_none (by omega)]
        decide
theorem open_opns {r : Reach} {b0 : Nat} {t e : TypeId} {f0 f1 f2 f3 f4 : Field} {v : Value} {d : DataW H} {ps : List MemPlace} (ht : P.underlying t = some (.slice e)) (he : P.underlying e = some (.struct #[f0, f1, f2, f3, f4]))
    (hone : oneCellFields P #[f0, f1, f2, f3, f4] = true) (hC : P.cellsOf e = 5) (e0 : P.underlying f0.type = some (.int .u8)) (e1 : P.underlying f1.type = some (.int .u8)) (e2 : P.underlying f2.type = some (.int .u8)) (e3 : P.underlying f3.type = some (.int .u8)) (e4 : P.underlying f4.type = some .string)
    (hval : Value.okWide P w r b0 t v) (h : DataW.Trod enc P w 0 (fun _ => true) true t v d ps) :
    ∃ A n c, ∃ f : Nat → Opn, v = .slice A n c ∧ n ≤ 9223372036854775807 ∧ InO w A n f ∧ ∀ j, (f j).ok := by
  obtain ⟨A, n, c, rfl⟩ := okWide_slice ht hval
  obtain ⟨fuel, hf⟩ := h
  rcases open_slice ht hf with ⟨hcs, _⟩ | ⟨a, len, cap, m, k, D, Pl, hcs, _, hl, hmx, hm, _, hx⟩
  · simp [Value.cells] at hcs
    obtain ⟨rfl, rfl, rfl⟩ := hcs
    exact ⟨none, 0, 0, fun _ => ⟨0, 0, 0, 0, ⟨#[]⟩⟩, rfl, Nat.zero_le _, fun h => absurd h (by omega), fun _ => by unfold Opn.ok; simp⟩
  · simp [Value.cells] at hcs
    obtain ⟨rfl, rfl, rfl⟩ := hcs
    simp only [if_true] at hm
    subst hm
    rw [hC] at hx
    have each : ∀ i, ∃ q : Opn, q.ok ∧
        (i < n → w.cell? (a.add (i * 5)) = some (.int .u8 q.kd) ∧ w.cell? (a.add (i * 5 + 1)) = some (.int .u8 q.a) ∧ w.cell? (a.add (i * 5 + 2)) = some (.int .u8 q.b) ∧ w.cell? (a.add (i * 5 + 3)) = some (.int .u8 q.c) ∧ w.cell? (a.add (i * 5 + 4)) = some (.string q.s)) := by
      intro i
      by_cases hi : i < n
      · obtain ⟨cs, h1, h2⟩ := hx i (by omega)
        obtain ⟨_, hlen, hcell⟩ := World.cells?_some h1
        obtain ⟨o0, k0⟩ := hone_of hone 0 f0 rfl
        obtain ⟨o1, k1⟩ := hone_of hone 1 f1 rfl
        obtain ⟨o2, k2⟩ := hone_of hone 2 f2 rfl
        obtain ⟨o3, k3⟩ := hone_of hone 3 f3 rfl
        obtain ⟨o4, k4⟩ := hone_of hone 4 f4 rfl
        obtain ⟨xs, k', _, _, _, hxl, hg⟩ := DataW.trod_struct he h2
        match xs, hxl, cs, hlen with
        | [y0, y1, y2, y3, y4], _, [v0, v1, v2, v3, v4], _ =>
          have g0 := hg 0 f0 rfl
          have g1 := hg 1 f1 rfl
          have g2 := hg 2 f2 rfl
          have g3 := hg 3 f3 rfl
          have g4 := hg 4 f4 rfl
          simp [o0, o1, o2, o3, o4, k0, k1, k2, k3, k4] at g0 g1 g2 g3 g4
          obtain ⟨x0, z0, _, w0⟩ := DataW.trod_int e0 g0
          obtain ⟨x1, z1, _, w1⟩ := DataW.trod_int e1 g1
          obtain ⟨x2, z2, _, w2⟩ := DataW.trod_int e2 g2
          obtain ⟨x3, z3, _, w3⟩ := DataW.trod_int e3 g3
          obtain ⟨x4, z4, _⟩ := DataW.trod_string e4 g4
          simp at z0 z1 z2 z3 z4
          subst z0 z1 z2 z3 z4
          refine ⟨⟨x0, x1, x2, x3, x4⟩, ⟨byte_in w0, byte_in w1, byte_in w2, byte_in w3⟩, fun _ => ⟨?_, ?_, ?_, ?_, ?_⟩⟩
          · have := hcell 0 (by omega); simpa [Addr.add] using this
          · have := hcell 1 (by omega); rw [Go.Deep.add_add] at this; simpa using this
          · have := hcell 2 (by omega); rw [Go.Deep.add_add] at this; simpa using this
          · have := hcell 3 (by omega); rw [Go.Deep.add_add] at this; simpa using this
          · have := hcell 4 (by omega); rw [Go.Deep.add_add] at this; simpa using this
      · exact ⟨⟨0, 0, 0, 0, ⟨#[]⟩⟩, by unfold Opn.ok; simp, fun h => absurd h hi⟩
    obtain ⟨F, hF⟩ := Classical.axiomOfChoice each
    refine ⟨some a, n, _, F, rfl, by unfold maxLen at hmx; omega, fun hn => ?_, fun j => (hF j).1⟩
    have hc := fun i hi => (hF i).2 hi
    clear hF each
    obtain ⟨b, off, el⟩ := a
    have h0 := (hc 0 hn).1
    have hel : el = none := by simpa [Addr.add] using World.cell?_spot h0
    subst hel
    refine ⟨b, off, rfl, ?_, fun i hi => ?_⟩
    · have := World.block_lt_of_cell? _ _ h0
      rw [Go.WideShapes.add_plain] at this
      exact this
    · obtain ⟨q0, q1, q2, q3, q4⟩ := hc i hi
      rw [Go.WideShapes.add_plain] at q0 q1 q2 q3 q4
      exact ⟨q0, q1, q2, q3, q4⟩
end

/-- what Few answers -/
def FwR (kn n : Nat) (f : Nat → Opn) (w : World) (e : Ending) (w' : World) : Prop := ∃ b : Bool, e = .returned (.bool b) ∧ (b = true → kn ≤ 20 ∧ n ≤ 60 ∧ ∀ j, j < n → (f j).s.size ≤ 20) ∧ w' = w

set_option maxRecDepth 100000 in
set_option maxHeartbeats 4000000 in
theorem few_any {w : World} (ka : Option Addr) (kn kc : Nat) (A : Option Addr) (n c : Nat) (f : Nat → Opn) (h : InO w A n f) (hk : kn ≤ 9223372036854775807) (hn : n ≤ 9223372036854775807) :
    Calls Tryz.prog 6 #[.slice ka kn kc, .slice A n c] w (FwR kn n f w) := by
  have H := Lib.hid h
  clear h
  go_enter Tryz.func6, Tryz.ntmps6
  go_wp2_with fail
  go_loop [8] (fun iv => ∃ k : Nat, k ≤ n ∧ iv = .int .i64 (k : Int) ∧ ∀ j, j < k → (f j).s.size ≤ 20) (fun iv => n - (intOf iv).toNat)
  case atStart => exact ⟨0, Nat.zero_le _, rfl, fun j hj => absurd hj (Nat.not_lt_zero j)⟩
  case round =>
    obtain ⟨k, hkn, rfl, hS⟩ := hrel
    have HS := Lib.hid hS
    clear hS
    by_cases hkl : k < n
    · obtain ⟨b, off, rfl, hb, hc⟩ := H.out (by omega)
      have q4 := (hc k hkl).2.2.2.2
      generalize hq : (f k).s = sk at *
      clear hc
      by_cases h20 : 20 < sk.size
      · have d1 : decide ((20 : Int) < (sk.size : Int)) = true := by simp; omega
        go_wp2_with fail
        go_ret
        exact ⟨false, rfl, (fun e => by cases e), rfl⟩
      · have d1 : decide ((20 : Int) < (sk.size : Int)) = false := by simp; omega
        go_wp2_with fail
        go_round
        case rel =>
          refine ⟨k + 1, by omega, by go_num, fun j hj => ?_⟩
          by_cases e : j = k
          · subst e; rw [hq]; omega
          · exact HS.out j (by omega)
        case measure => simp [intOf]; omega
    · obtain rfl : k = n := by omega
      by_cases h1 : kn ≤ 20
      · have d1 : decide ((kn : Int) ≤ 20) = true := by simp; omega
        by_cases h2 : k ≤ 60
        · have d2 : decide ((k : Int) ≤ 60) = true := by simp; omega
          go_wp2_with fail
          go_ret
          exact ⟨true, rfl, fun _ => ⟨h1, h2, HS.out⟩, rfl⟩
        · have d2 : decide ((k : Int) ≤ 60) = false := by simp; omega
          go_wp2_with fail
          go_ret
          exact ⟨false, rfl, (fun e => by cases e), rfl⟩
      · have d1 : decide ((kn : Int) ≤ 20) = false := by simp; omega
        go_wp2_with fail
        go_ret
        exact ⟨false, rfl, (fun e => by cases e), rfl⟩
end Go.Proofs.YtfdofkokiaapoaaGreatDoor.W
end
section
/- What the laws of watches share: Mutate with no nodes, plans opened, observers after Note. -/
namespace Go.Proofs.YtfdofkokiaapoaaGreatDoor.W
open Go.ChangeShapes Go.WideShapes Go.ChangeAt Go.RowKit Go.Joins Go.Deep
set_option linter.unusedVariables false
set_option linter.unusedSimpArgs false

section
variable {H : Type} {enc : TypeId × Value → H} {P : Program} {w : World}
theorem open_plans {r : Reach} {b0 : Nat} {t e : TypeId} {f0 f1 f2 f3 : Field} {v : Value} {d : DataW H} {ps : List MemPlace} (ht : P.underlying t = some (.slice e)) (he : P.underlying e = some (.struct #[f0, f1, f2, f3]))
    (hone : oneCellFields P #[f0, f1, f2, f3] = true) (hC : P.cellsOf e = 4) (e0 : P.underlying f0.type = some (.int .u8)) (e1 : P.underlying f1.type = some (.int .u8)) (e2 : P.underlying f2.type = some (.int .u8)) (e3 : P.underlying f3.type = some (.int .u8))
    (hval : Value.okWide P w r b0 t v) (h : DataW.Trod enc P w 0 (fun _ => true) true t v d ps) :
    ∃ A n c, ∃ f : Nat → Pl4, v = .slice A n c ∧ n ≤ 9223372036854775807 ∧ InP w A n f ∧ ∀ j, (f j).ok := by
  obtain ⟨A, n, c, rfl⟩ := okWide_slice ht hval
  obtain ⟨fuel, hf⟩ := h
  rcases open_slice ht hf with ⟨hcs, _⟩ | ⟨a, len, cap, m, k, D, Pl, hcs, _, hl, hmx, hm, _, hx⟩
  · simp [Value.cells] at hcs
    obtain ⟨rfl, rfl, rfl⟩ := hcs
    exact ⟨none, 0, 0, fun _ => ⟨0, 0, 0, 0⟩, rfl, Nat.zero_le _, fun h => absurd h (by omega), fun _ => by unfold Pl4.ok; simp⟩
  · simp [Value.cells] at hcs
    obtain ⟨rfl, rfl, rfl⟩ := hcs
    simp only [if_true] at hm
    subst hm
    rw [hC] at hx
    have each : ∀ i, ∃ q : Pl4, q.ok ∧
        (i < n → w.cell? (a.add (i * 4)) = some (.int .u8 (q.ob : Int)) ∧ w.cell? (a.add (i * 4 + 1)) = some (.int .u8 (q.tg : Int)) ∧ w.cell? (a.add (i * 4 + 2)) = some (.int .u8 (q.op : Int)) ∧ w.cell? (a.add (i * 4 + 3)) = some (.int .u8 (q.fl : Int))) := by
      intro i
      by_cases hi : i < n
      · obtain ⟨cs, h1, h2⟩ := hx i (by omega)
        obtain ⟨_, hlen, hcell⟩ := World.cells?_some h1
        obtain ⟨o0, k0⟩ := hone_of hone 0 f0 rfl
        obtain ⟨o1, k1⟩ := hone_of hone 1 f1 rfl
        obtain ⟨o2, k2⟩ := hone_of hone 2 f2 rfl
        obtain ⟨o3, k3⟩ := hone_of hone 3 f3 rfl
        obtain ⟨xs, k', _, _, _, hxl, hg⟩ := DataW.trod_struct he h2
        match xs, hxl, cs, hlen with
        | [y0, y1, y2, y3], _, [v0, v1, v2, v3], _ =>
          have g0 := hg 0 f0 rfl
          have g1 := hg 1 f1 rfl
          have g2 := hg 2 f2 rfl
          have g3 := hg 3 f3 rfl
          simp [o0, o1, o2, o3, k0, k1, k2, k3] at g0 g1 g2 g3
          obtain ⟨x0, z0, _, w0⟩ := DataW.trod_int e0 g0
          obtain ⟨x1, z1, _, w1⟩ := DataW.trod_int e1 g1
          obtain ⟨x2, z2, _, w2⟩ := DataW.trod_int e2 g2
          obtain ⟨x3, z3, _, w3⟩ := DataW.trod_int e3 g3
          simp at z0 z1 z2 z3
          subst z0 z1 z2 z3
          have b0 := byte_in w0
          have b1 := byte_in w1
          have b2 := byte_in w2
          have b3 := byte_in w3
          obtain ⟨x0, rfl⟩ := Int.eq_ofNat_of_zero_le b0.1
          obtain ⟨x1, rfl⟩ := Int.eq_ofNat_of_zero_le b1.1
          obtain ⟨x2, rfl⟩ := Int.eq_ofNat_of_zero_le b2.1
          obtain ⟨x3, rfl⟩ := Int.eq_ofNat_of_zero_le b3.1
          refine ⟨⟨x0, x1, x2, x3⟩, ⟨by simp only []; omega, by simp only []; omega, by simp only []; omega, by simp only []; omega⟩, fun _ => ⟨?_, ?_, ?_, ?_⟩⟩
          · have := hcell 0 (by omega); simpa [Addr.add] using this
          · have := hcell 1 (by omega); rw [Go.Deep.add_add] at this; simpa using this
          · have := hcell 2 (by omega); rw [Go.Deep.add_add] at this; simpa using this
          · have := hcell 3 (by omega); rw [Go.Deep.add_add] at this; simpa using this
      · exact ⟨⟨0, 0, 0, 0⟩, by unfold Pl4.ok; simp, fun h => absurd h hi⟩
    obtain ⟨F, hF⟩ := Classical.axiomOfChoice each
    refine ⟨some a, n, _, F, rfl, by unfold maxLen at hmx; omega, fun hn => ?_, fun j => (hF j).1⟩
    have hc := fun i hi => (hF i).2 hi
    clear hF each
    obtain ⟨b, off, el⟩ := a
    have h0 := (hc 0 hn).1
    have hel : el = none := by simpa [Addr.add] using World.cell?_spot h0
    subst hel
    refine ⟨b, off, rfl, ?_, fun i hi => ?_⟩
    · have := World.block_lt_of_cell? _ _ h0
      rw [Go.WideShapes.add_plain] at this
      exact this
    · obtain ⟨q0, q1, q2, q3⟩ := hc i hi
      rw [Go.WideShapes.add_plain] at q0 q1 q2 q3
      exact ⟨q0, q1, q2, q3⟩
end
theorem InP.keep {w w' : World} {A : Option Addr} {n : Nat} {f : Nat → Pl4} (h : InP w A n f) (hb : Below w.heap.size w w') : InP w' A n f := fun hn0 => by
  obtain ⟨b, off, e, hlt, hc⟩ := h hn0
  refine ⟨b, off, e, Nat.lt_of_lt_of_le hlt hb.size, fun j hj => ?_⟩
  obtain ⟨q0, q1, q2, q3⟩ := hc j hj
  exact ⟨cell_keep hb q0, cell_keep hb q1, cell_keep hb q2, cell_keep hb q3⟩
theorem InO.keep {w w' : World} {A : Option Addr} {n : Nat} {f : Nat → Opn} (h : InO w A n f) (hb : Below w.heap.size w w') : InO w' A n f := fun hn0 => by
  obtain ⟨b, off, e, hlt, hc⟩ := h hn0
  refine ⟨b, off, e, Nat.lt_of_lt_of_le hlt hb.size, fun j hj => ?_⟩
  obtain ⟨q0, q1, q2, q3, q4⟩ := hc j hj
  exact ⟨cell_keep hb q0, cell_keep hb q1, cell_keep hb q2, cell_keep hb q3, cell_keep hb q4⟩

/-- what Mutate leaves: of no nodes, no record -/
def MuT (B : Nat) (w0 : World) (R : Nat) (S : Tr) (sv fv : Value) (N : Nat) (l : List Ob) (e : Ending) (w' : World) : Prop :=
  ∃ S' K' d' v rs, e = .returned v ∧ Dc S' K' d' N ∧ S'.b = S.b ∧ S'.s = S.s ∧ (∀ r ∈ rs, Good S' N r) ∧ rs.length ≤ 2 ∧ (rs ≠ [] → 0 < N) ∧ All B w0 (rl v rs :: trO R S' sv fv :: l) w'
set_option maxRecDepth 100000 in
set_option maxHeartbeats 4000000 in
theorem mutate_tg {B : Nat} {w0 w : World} {R : Nat} {S : Tr} {sv fv hv : Value} {N : Nat} {l : List Ob} {K : Nat → List Nat} {d : Nat → Nat} (hD : Dc S K d N) (h : All B w0 (trO R S sv fv :: gl hv (hds S N) :: l) w) (hT : Laid w)
    (kd a b c : Nat) (hk : kd ≤ 255) (ha : a ≤ 255) (hb : b ≤ 255) (hc : c ≤ 255) (s : List UInt8) (hs : s.length ≤ 1000) (hN : N ≤ 1000) :
    Calls Tryz.prog 10 #[.pointer (some ⟨R, 0, none⟩), hv, .agg #[.int .u8 (kd : Int), .int .u8 (a : Int), .int .u8 (b : Int), .int .u8 (c : Int), strV s]] w (MuT B w0 R S sv fv N (gl hv (hds S N) :: l)) := by
  by_cases h0 : N = 0
  · have hO : Own w _ _ _ _ _ := h.tail.head
    rw [hds_len] at hO
    obtain ⟨va, vc, rfl⟩ := own_shape hO
    subst h0
    have H := Lib.hid h
    have HD := Lib.hid hD
    clear h hD hT hO
    unfold strV at *
    go_enter Tryz.func10, Tryz.ntmps10
    go_wp2_with fail
    go_ret
    exact ⟨S, K, d, _, [], rfl, HD.out, rfl, rfl, by simp, by simp, fun h => absurd rfl h, (H.out.alloc _).nil _ _⟩
  · refine (mutate_any hD h hT kd a b c hk ha hb hc s hs hN).mono ?_
    rintro e w' ⟨S', K', d', v, rs, h1, h2, h3, h4, h5, h6, h7⟩
    refine ⟨S', K', d', v, rs, h1, h2, h3, h4, fun r hr => ?_, h6, fun _ => Nat.pos_of_ne_zero h0, h7⟩
    obtain ⟨⟨x, hx, hxt⟩, hk⟩ := h5 r hr
    exact ⟨⟨x, hx, by rw [hxt]; unfold Tr.hd; rw [h3, h4]⟩, hk⟩

/-- the target of a plan is a node -/
theorem tgP_hd {S : Tr} {N : Nat} (hN : 0 < N) (m : Nat) : ∃ i, i ≤ N ∧ tgP (hds S N) m = S.hd i := by
  have hm : m % (hds S N).length < N := by rw [hds_len]; exact Nat.mod_lt _ hN
  refine ⟨m % (hds S N).length + 1, by omega, ?_⟩
  unfold tgP
  rw [List.getD_eq_getElem?_getD, hds_at S N _ hm]
  rfl
/-- an observer's watches are of plans -/
def OfP (l : List Int) (z : Ov) : Prop := ∀ x ∈ z.ws, ∃ m, x.target = tgP l m
theorem OfP.tg {S S' : Tr} {N : Nat} {z : Ov} (h : OfP (hds S N) z) (hN : 0 < N) (hb : S'.b = S.b) (hs : S'.s = S.s) : TgO S' N z := fun x hx => by
  obtain ⟨m, hm⟩ := h x hx
  obtain ⟨i, hi, hit⟩ := tgP_hd (S := S) hN m
  exact ⟨i, hi, by rw [hm, hit]; unfold Tr.hd; rw [hb, hs]⟩
theorem obk_of {l : List Int} {f : Nat → Pl4} {fs : List Fl} {n j : Nat} {x : Oz} (h : ObK l f fs n j x) (hn : n ≤ 1000) : OfP l x.1 ∧ OkO fs x.1 := by
  obtain ⟨h1, h2, h3, h4, h5⟩ := h
  have hm : ∀ y ∈ x.1.ws, ∃ m, y.target = tgP l m ∧ y.flt.length ≤ 3 := fun y hy => by
    have := plW_tg l f j n y.bare (by rw [← h4]; exact List.mem_map_of_mem hy)
    exact this
  refine ⟨fun y hy => ?_, h5, ?_, ?_, fun y hy => ?_⟩
  · obtain ⟨m, h, _⟩ := hm y hy
    exact ⟨m, h⟩
  · have := plW_len l f j n
    rw [← h4, List.length_map] at this
    omega
  · rw [h3]; simp
  · obtain ⟨m, _, h⟩ := hm y hy
    omega
theorem up_at {c : Wb → Rc → Bool} {rs : List Rc} {zs zs' : List Oz} (he : zs'.map pz = (zs.map pz).map (upL c rs)) {j : Nat} {x' : Oz} (h : zs'[j]? = some x') : ∃ x, zs[j]? = some x ∧ x'.1 = { x.1 with rs := x.1.rs ++ toldL c (x.1.ws.map Wt.bare) rs } := by
  have h1 : (zs'.map pz)[j]? = some (pz x') := by rw [List.getElem?_map, h]; rfl
  rw [he, List.getElem?_map, List.getElem?_map] at h1
  cases hx : zs[j]? with
  | none => rw [hx] at h1; cases h1
  | some x =>
    rw [hx] at h1
    simp only [Option.map_some, Option.some.injEq] at h1
    refine ⟨x, rfl, ?_⟩
    have h2 := congrArg Prod.fst h1
    simp only [pz, upL] at h2
    exact h2.symm
theorem up_len {c : Wb → Rc → Bool} {rs : List Rc} {zs zs' : List Oz} (he : zs'.map pz = (zs.map pz).map (upL c rs)) : zs'.length = zs.length := by
  have := congrArg List.length he
  simpa using this
theorem told_none (c : Wb → Rc → Bool) : ∀ rs : List Rc, toldL c [] rs = []
  | [] => rfl
  | r :: rs => by
    have := told_none c rs
    unfold toldL at this ⊢
    rw [List.flatMap_cons, this]
    rfl
end Go.Proofs.YtfdofkokiaapoaaGreatDoor.W
end
