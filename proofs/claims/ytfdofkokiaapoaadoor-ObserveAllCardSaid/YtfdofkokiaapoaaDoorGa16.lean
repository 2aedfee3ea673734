/- Texts joined: Close OpenM Mut Make. -/
import Derived.Test.YtfdofkokiaapoaaDoorRows
import Derived.WalkKit
import Derived.ProofKit
import Derived.OpenShut
import Derived.Lib.SmallJoins
import Derived.Test.YtfdofkokiaapoaaDoorGa13
import Derived.Deep.Slices
import Derived.Test.YtfdofkokiaapoaaDoorGa15
import Derived.Test.YtfdofkokiaapoaaDoorGa5
import Derived.Test.YtfdofkokiaapoaaDoorGa11
import Derived.Deep.CutBlock
section
/- The last step of every law: where the call returns true and nothing that was there has changed, the law's row holds. No function in sight. -/
namespace Go.Proofs.YtfdofkokiaapoaaDoor.W
open Go.ChangeShapes Go.WideShapes Go.ChangeAt Go.RowKit Go.Joins

theorem own : ownKnob Tryd.prog.godebug = none := by kernel_rfl
theorem laidOut : laidOutB Tryd.prog = true := by kernel_rfl

theorem trodAll_stays {H : Type} {enc : TypeId × Value → H} {P : Program} (hl : laidOutB P = true) {W W' : World} (hb : Below W.heap.size W W') {sp : Nat → Bool} :
    ∀ {ts : List TypeId} {vs : List Value} {ds : List (DataW H)} {ps : List MemPlace}, (∀ t ∈ ts, P.readableRec t = true ∧ t < P.types.size) →
      DataW.TrodAll enc P W 0 (fun _ => true) true ts vs ds ps → (∀ p ∈ ps, p.block < W.heap.size) → (∀ p ∈ ps, sp p.block = true) → DataW.TrodAll enc P W' 0 sp true ts vs ds ps
  | [], [], [], _, _, h, _, _ => h
  | [], _ :: _, _, _, _, h, _, _ => h.elim
  | [], [], _ :: _, _, _, h, _, _ => h.elim
  | _ :: _, [], _, _, _, h, _, _ => h.elim
  | _ :: _, _ :: _, [], _, _, h, _, _ => h.elim
  | t :: ts, v :: vs, d :: ds, ps, hT, ⟨p, q, h1, h2, e⟩, hlt, hs => by
    subst e
    obtain ⟨hr, hrow⟩ := hT t (by simp)
    exact ⟨p, q, WideElems.Trod_stays hl hr hrow h1 (fun x hx => hb.same (hlt x (by simp [hx]))) (fun x hx => hs x (by simp [hx])),
      trodAll_stays hl hb (fun t ht => hT t (by simp [ht])) h2 (fun x hx => hlt x (by simp [hx])) (fun x hx => hs x (by simp [hx])), rfl⟩

/-- true, and nothing that was there has changed -/
def Holds (w : World) (e : Ending) (w' : World) : Prop := e = .returned (.bool true) ∧ Below w.heap.size w w'

section
variable {H : Type} {enc : TypeId × Value → H} {P : Program}
theorem post_of_below {f : Func} {s : ChangeSpec} {apart fresh handsOn again : Bool} {W W' : World} {args : Array Value} {v : Value} {ds gs : List (DataW H)} {before pa pv : List MemPlace}
    (hW : DataW.Whole enc P f.params.toList s.vars apart W args.toList ds gs before)
    (hres : ∀ (b : Nat) (sp : Nat → Bool) (hd : Bool), DataW.TrodAll enc P W' b sp hd f.resultTypes.toList (v.resultList f.resultTypes.size) (s.fn H (ds ++ gs)).results [])
    (hargs : ∀ sp : Nat → Bool, (∀ p ∈ before, sp p.block = true) → DataW.TrodAll enc P W' 0 sp true f.params.toList args.toList (s.fn H (ds ++ gs)).args pa)
    (hvars : ∀ sp : Nat → Bool, (∀ p ∈ before, sp p.block = true) → DataW.TrodVars enc P W' sp s.vars (s.fn H (ds ++ gs)).vars pv)
    (hps : before = pa ++ pv) (hb : Below W.heap.size W W')
    (hok : ∀ (j : Nat) (t : TypeId) (r : Value), f.resultTypes[j]? = some t → (v.resultList f.resultTypes.size)[j]? = some r → Value.okWide P W' .any 0 t r) :
    s.post enc P f apart fresh handsOn again W args v W' := by
  have hlt : ∀ p ∈ before, p.block < W.heap.size := fun p hp => hW.lt p hp
  have hold : ∀ p ∈ before, (fun b => decide (b < W.heap.size)) p.block = true := fun p hp => by simpa using hlt p hp
  refine ⟨ds, gs, before, [], pa, pv, hW, hres _ _ _, hargs _ hold, hvars _ hold, World.keptBut_mono (fun p hp => ⟨hp, ?_⟩) (hb.frame (· ∈ before)), fun _ => ?_⟩
  · rw [hps, List.mem_append] at hp
    exact Or.inr hp
  · obtain ⟨_, _, _, _, _, hz, hn⟩ := hW
    refine ⟨hok, _, _, ([] ++ pa) ++ pv, ⟨[] ++ pa, pv, trodAll_append (hargs _ (fun _ _ => rfl)) (hres _ _ _), hvars _ (fun _ _ => rfl), rfl, ?_, ?_⟩, ?_⟩
    · intro b off hp
      have hin : MemPlace.cell b off ∈ before := by rw [hps]; simpa using hp
      rw [hb.frozen (hlt _ hin)]
      exact hz b off hin
    · intro ha
      have := hn ha
      rw [hps] at this
      simpa using this
    · intro p hp _
      rw [hps]
      simpa using hp

/-- the row's post, out of the walk's -/
theorem law_post {f : Func} {s : ChangeSpec} {fresh handsOn again : Bool} {W W' : World} {args : Array Value} {ds gs : List (DataW H)} {before : List MemPlace} {tb : TypeId}
    (hl : laidOutB P = true) (hT : ∀ t ∈ f.params.toList, P.readableRec t = true ∧ t < P.types.size)
    (hr : f.resultTypes = #[tb]) (htb : P.underlying tb = some .bool) (hv : s.vars = [])
    (hfn : (s.fn H (ds ++ gs)).results = [.lit (.bool true)]) (hfa : (s.fn H (ds ++ gs)).args = ds) (hfv : (s.fn H (ds ++ gs)).vars = [])
    (hW : DataW.Whole enc P f.params.toList s.vars false W args.toList ds gs before) (hb : Below W.heap.size W W') :
    s.post enc P f false fresh handsOn again W args (.bool true) W' := by
  have hlt : ∀ p ∈ before, p.block < W.heap.size := fun p hp => hW.lt p hp
  have hW' := hW
  obtain ⟨p, q, hA, hV, rfl, _, _⟩ := hW
  rw [hv] at hV
  obtain ⟨rfl, rfl⟩ := trodVars_none hV
  simp only [List.append_nil] at *
  refine post_of_below (pa := p) (pv := []) hW' (fun _ _ _ => ?_) (fun sp hs => ?_) (fun sp _ => ?_) (by simp) hb (ok_one hr rfl (okWide_bool_mk htb _))
  · rw [hr]
    simp only [List.append_nil]
    rw [hfn]
    exact trodAll_cons_mk (shut_bool htb _) trodAll_mk0
  · simp only [List.append_nil]
    rw [hfa]
    exact trodAll_stays hl hb hT hA hlt hs
  · simp only [List.append_nil]
    rw [hv, hfv]
    rfl
end
end Go.Proofs.YtfdofkokiaapoaaDoor.W
end
section
/- Arguments opened: bytes, operations; Few. -/
namespace Go.Proofs.YtfdofkokiaapoaaDoor.W
open Go.ChangeShapes Go.WideShapes Go.ChangeAt Go.RowKit Go.Joins Go.Deep
set_option linter.unusedVariables false
set_option linter.unusedSimpArgs false

/-- the bytes of a slice -/
def InB (w : World) (A : Option Addr) (n : Nat) (f : Nat → Int) : Prop := 0 < n → ∃ b off, A = some ⟨b, off, none⟩ ∧ b < w.heap.size ∧ ∀ j, j < n → w.cell? ⟨b, off + j, none⟩ = some (.int .u8 (f j))
/-- an operation -/
structure Opn where
  kd : Int
  a : Int
  b : Int
  c : Int
  s : ByteArray
def Opn.ok (q : Opn) : Prop := (0 ≤ q.kd ∧ q.kd ≤ 255) ∧ (0 ≤ q.a ∧ q.a ≤ 255) ∧ (0 ≤ q.b ∧ q.b ≤ 255) ∧ (0 ≤ q.c ∧ q.c ≤ 255)
def InO (w : World) (A : Option Addr) (n : Nat) (f : Nat → Opn) : Prop := 0 < n → ∃ b off, A = some ⟨b, off, none⟩ ∧ b < w.heap.size ∧ ∀ j, j < n →
  w.cell? ⟨b, off + j * 5, none⟩ = some (.int .u8 (f j).kd) ∧ w.cell? ⟨b, off + j * 5 + 1, none⟩ = some (.int .u8 (f j).a) ∧ w.cell? ⟨b, off + j * 5 + 2, none⟩ = some (.int .u8 (f j).b) ∧ w.cell? ⟨b, off + j * 5 + 3, none⟩ = some (.int .u8 (f j).c) ∧ w.cell? ⟨b, off + j * 5 + 4, none⟩ = some (.string (f j).s)
theorem byte_in {x : Int} (h : (Lit.int .u8 x).wf = true) : 0 ≤ x ∧ x ≤ 255 := by
  have := bounds_u8 h
  omega

section
variable {H : Type} {enc : TypeId × Value → H} {P : Program} {w : World}
theorem open_bytes {r : Reach} {b0 : Nat} {t e : TypeId} {v : Value} {d : DataW H} {ps : List MemPlace} (ht : P.underlying t = some (.slice e)) (he : P.underlying e = some (.int .u8)) (hc : P.cellsOf e = 1)
    (hval : Value.okWide P w r b0 t v) (h : DataW.Trod enc P w 0 (fun _ => true) true t v d ps) :
    ∃ A n c, ∃ f : Nat → Int, v = .slice A n c ∧ n ≤ 9223372036854775807 ∧ InB w A n f ∧ ∀ j, 0 ≤ f j ∧ f j ≤ 255 := by
  obtain ⟨A, n, c, rfl⟩ := okWide_slice ht hval
  obtain ⟨fuel, hf⟩ := h
  rcases open_ints ht he hc hf with ⟨hcs, _⟩ | ⟨a, len, cap, zs, hcs, _, hl, hmx, hzl, _, hcell, hwf⟩
  · simp [Value.cells] at hcs
    obtain ⟨rfl, rfl, rfl⟩ := hcs
    exact ⟨none, 0, 0, fun _ => 0, rfl, Nat.zero_le _, fun h => absurd h (by omega), fun _ => by simp⟩
  · simp [Value.cells] at hcs
    obtain ⟨rfl, rfl, rfl⟩ := hcs
    simp only [if_true] at hzl
    refine ⟨some a, n, c, fun j => zs.getD j 0, rfl, by unfold maxLen at hmx; omega, fun hn => ?_, fun j => byte_in ?_⟩
    · obtain ⟨b, off, rfl, hc⟩ := ints_at hcell (by omega)
      exact ⟨b, off, rfl, World.block_lt_of_cell? _ _ (hc 0 (by omega)), fun j hj => hc j (by omega)⟩
    · show (Lit.int .u8 (zs.getD j 0)).wf = true
      by_cases hj : j < zs.length
      · rw [List.getD_eq_getElem?_getD, List.getElem?_eq_getElem hj]
        exact hwf _ (List.getElem_mem hj)
      · rw [List.getD_eq_getElem?_getD, List.getElem?_eq_none (by omega)]
        decide
theorem open_opns {r : Reach} {b0 : Nat} {t e : TypeId} {f0 f1 f2 f3 f4 : Field} {v : Value} {d : DataW H} {ps : List MemPlace} (ht : P.underlying t = some (.slice e)) (he : P.underlying e = some (.struct #[f0, f1, f2, f3, f4]))
    (hone : oneCellFields P #[f0, f1, f2, f3, f4] = true) (hC : P.cellsOf e = 5) (e0 : P.underlying f0.type = some (.int .u8)) (e1 : P.underlying f1.type = some (.int .u8)) (e2 : P.underlying f2.type = some (.int .u8)) (e3 : P.underlying f3.type = some (.int .u8)) (e4 : P.underlying f4.type = some .string)
    (hval : Value.okWide P w r b0 t v) (h : DataW.Trod enc P w 0 (fun _ => true) true t v d ps) :
    ∃ A n c, ∃ f : Nat → Opn, v = .slice A n c ∧ n ≤ 9223372036854775807 ∧ InO w A n f ∧ ∀ j, (f j).ok := by
  obtain ⟨A, n, c, rfl⟩ := okWide_slice ht hval
  obtain ⟨fuel, hf⟩ := h
  rcases open_slice ht hf with ⟨hcs, _⟩ | ⟨a, len, cap, m, k, D, Pl, hcs, _, hl, hmx, hm, _, hx⟩
  · simp [Value.cells] at hcs
    obtain ⟨rfl, rfl, rfl⟩ := hcs
    exact ⟨none, 0, 0, fun _ => ⟨0, 0, 0, 0, ⟨#[]⟩⟩, rfl, Nat.zero_le _, fun h => absurd h (by omega), fun _ => by unfold Opn.ok; simp⟩
  · simp [Value.cells] at hcs
    obtain ⟨rfl, rfl, rfl⟩ := hcs
    simp only [if_true] at hm
    subst hm
    rw [hC] at hx
    have each : ∀ i, ∃ q : Opn, q.ok ∧
        (i < n → w.cell? (a.add (i * 5)) = some (.int .u8 q.kd) ∧ w.cell? (a.add (i * 5 + 1)) = some (.int .u8 q.a) ∧ w.cell? (a.add (i * 5 + 2)) = some (.int .u8 q.b) ∧ w.cell? (a.add (i * 5 + 3)) = some (.int .u8 q.c) ∧ w.cell? (a.add (i * 5 + 4)) = some (.string q.s)) := by
      intro i
      by_cases hi : i < n
      · obtain ⟨cs, h1, h2⟩ := hx i (by omega)
        obtain ⟨_, hlen, hcell⟩ := World.cells?_some h1
        obtain ⟨o0, k0⟩ := hone_of hone 0 f0 rfl
        obtain ⟨o1, k1⟩ := hone_of hone 1 f1 rfl
        obtain ⟨o2, k2⟩ := hone_of hone 2 f2 rfl
        obtain ⟨o3, k3⟩ := hone_of hone 3 f3 rfl
        obtain ⟨o4, k4⟩ := hone_of hone 4 f4 rfl
        obtain ⟨xs, k', _, _, _, hxl, hg⟩ := DataW.trod_struct he h2
        match xs, hxl, cs, hlen with
        | [y0, y1, y2, y3, y4], _, [v0, v1, v2, v3, v4], _ =>
          have g0 := hg 0 f0 rfl
          have g1 := hg 1 f1 rfl
          have g2 := hg 2 f2 rfl
          have g3 := hg 3 f3 rfl
          have g4 := hg 4 f4 rfl
          simp [o0, o1, o2, o3, o4, k0, k1, k2, k3, k4] at g0 g1 g2 g3 g4
          obtain ⟨x0, z0, _, w0⟩ := DataW.trod_int e0 g0
          obtain ⟨x1, z1, _, w1⟩ := DataW.trod_int e1 g1
          obtain ⟨x2, z2, _, w2⟩ := DataW.trod_int e2 g2
          obtain ⟨x3, z3, _, w3⟩ := DataW.trod_int e3 g3
          obtain ⟨x4, z4, _⟩ := DataW.trod_string e4 g4
          simp at z0 z1 z2 z3 z4
          subst z0 z1 z2 z3 z4
          refine ⟨⟨x0, x1, x2, x3, x4⟩, ⟨byte_in w0, byte_in w1, byte_in w2, byte_in w3⟩, fun _ => ⟨?_, ?_, ?_, ?_, ?_⟩⟩
          · have := hcell 0 (by omega); simpa [Addr.add] using this
          · have := hcell 1 (by omega); rw [Go.Deep.add_add] at this; simpa using this
          · have := hcell 2 (by omega); rw [Go.Deep.add_add] at this; simpa using this
          · have := hcell 3 (by omega); rw [Go.Deep.add_add] at this; simpa using this
          · have := hcell 4 (by omega); rw [Go.Deep.add_add] at this; simpa using this
      · exact ⟨⟨0, 0, 0, 0, ⟨#[]⟩⟩, by unfold Opn.ok; simp, fun h => absurd h hi⟩
    obtain ⟨F, hF⟩ := Classical.axiomOfChoice each
    refine ⟨some a, n, _, F, rfl, by unfold maxLen at hmx; omega, fun hn => ?_, fun j => (hF j).1⟩
    have hc := fun i hi => (hF i).2 hi
    clear hF each
    obtain ⟨b, off, el⟩ := a
    have h0 := (hc 0 hn).1
    have hel : el = none := by simpa [Addr.add] using World.cell?_spot h0
    subst hel
    refine ⟨b, off, rfl, ?_, fun i hi => ?_⟩
    · have := World.block_lt_of_cell? _ _ h0
      rw [Go.WideShapes.add_plain] at this
      exact this
    · obtain ⟨q0, q1, q2, q3, q4⟩ := hc i hi
      rw [Go.WideShapes.add_plain] at q0 q1 q2 q3 q4
      exact ⟨q0, q1, q2, q3, q4⟩
end

/-- what Few answers -/
def FwR (kn n : Nat) (f : Nat → Opn) (w : World) (e : Ending) (w' : World) : Prop := ∃ b : Bool, e = .returned (.bool b) ∧ (b = true → kn ≤ 20 ∧ n ≤ 60 ∧ ∀ j, j < n → (f j).s.size ≤ 20) ∧ w' = w

set_option maxRecDepth 100000 in
set_option maxHeartbeats 4000000 in
theorem few_any {w : World} (ka : Option Addr) (kn kc : Nat) (A : Option Addr) (n c : Nat) (f : Nat → Opn) (h : InO w A n f) (hk : kn ≤ 9223372036854775807) (hn : n ≤ 9223372036854775807) :
    Calls Tryd.prog 7 #[.slice ka kn kc, .slice A n c] w (FwR kn n f w) := by
  have H := Lib.hid h
  clear h
  go_enter Tryd.func7, Tryd.ntmps7
  go_wp2_with fail
  go_loop [8] (fun iv => ∃ k : Nat, k ≤ n ∧ iv = .int .i64 (k : Int) ∧ ∀ j, j < k → (f j).s.size ≤ 20) (fun iv => n - (intOf iv).toNat)
  case atStart => exact ⟨0, Nat.zero_le _, rfl, fun j hj => absurd hj (Nat.not_lt_zero j)⟩
  case round =>
    obtain ⟨k, hkn, rfl, hS⟩ := hrel
    have HS := Lib.hid hS
    clear hS
    by_cases hkl : k < n
    · obtain ⟨b, off, rfl, hb, hc⟩ := H.out (by omega)
      have q4 := (hc k hkl).2.2.2.2
      generalize hq : (f k).s = sk at *
      clear hc
      by_cases h20 : 20 < sk.size
      · have d1 : decide ((20 : Int) < (sk.size : Int)) = true := by simp; omega
        go_wp2_with fail
        go_ret
        exact ⟨false, rfl, (fun e => by cases e), rfl⟩
      · have d1 : decide ((20 : Int) < (sk.size : Int)) = false := by simp; omega
        go_wp2_with fail
        go_round
        case rel =>
          refine ⟨k + 1, by omega, by go_num, fun j hj => ?_⟩
          by_cases e : j = k
          · subst e; rw [hq]; omega
          · exact HS.out j (by omega)
        case measure => simp [intOf]; omega
    · obtain rfl : k = n := by omega
      by_cases h1 : kn ≤ 20
      · have d1 : decide ((kn : Int) ≤ 20) = true := by simp; omega
        by_cases h2 : k ≤ 60
        · have d2 : decide ((k : Int) ≤ 60) = true := by simp; omega
          go_wp2_with fail
          go_ret
          exact ⟨true, rfl, fun _ => ⟨h1, h2, HS.out⟩, rfl⟩
        · have d2 : decide ((k : Int) ≤ 60) = false := by simp; omega
          go_wp2_with fail
          go_ret
          exact ⟨false, rfl, (fun e => by cases e), rfl⟩
      · have d1 : decide ((kn : Int) ≤ 20) = false := by simp; omega
        go_wp2_with fail
        go_ret
        exact ⟨false, rfl, (fun e => by cases e), rfl⟩
end Go.Proofs.YtfdofkokiaapoaaDoor.W
end
section
/- The contract of Mutate. -/
namespace Go.Proofs.YtfdofkokiaapoaaDoor.W
open Go.RowKit
set_option linter.unusedVariables false
set_option linter.unusedSimpArgs false

/-- the handles of a document's nodes -/
def hds (S : Tr) (N : Nat) : List Int := (List.range N).map fun i => S.hd (i + 1)
theorem hds_len (S : Tr) (N : Nat) : (hds S N).length = N := by simp [hds]
theorem hds_at (S : Tr) (N i : Nat) (h : i < N) : (hds S N)[i]? = some (S.hd (i + 1)) := by simp [hds, h]
/-- what Mutate leaves -/
def MuR (B : Nat) (w0 : World) (R : Nat) (S : Tr) (sv fv : Value) (N : Nat) (l : List Ob) (e : Ending) (w' : World) : Prop :=
  ∃ S' K' d' v rs, e = .returned v ∧ Dc S' K' d' N ∧ S'.b = S.b ∧ S'.s = S.s ∧ (∀ r ∈ rs, Good S N r) ∧ rs.length ≤ 2 ∧ All B w0 (rl v rs :: trO R S' sv fv :: l) w'

set_option maxRecDepth 100000 in
set_option maxHeartbeats 4000000 in
theorem mutate_any {B : Nat} {w0 w : World} {R : Nat} {S : Tr} {sv fv hv : Value} {N : Nat} {l : List Ob} {K : Nat → List Nat} {d : Nat → Nat} (hD : Dc S K d N) (h : All B w0 (trO R S sv fv :: gl hv (hds S N) :: l) w) (hT : Laid w)
    (kd a b c : Nat) (hk : kd ≤ 255) (ha : a ≤ 255) (hb : b ≤ 255) (hc : c ≤ 255) (s : List UInt8) (hs : s.length ≤ 1000) (hN : N ≤ 1000) :
    Calls Tryd.prog 11 #[.pointer (some ⟨R, 0, none⟩), hv, .agg #[.int .u8 (kd : Int), .int .u8 (a : Int), .int .u8 (b : Int), .int .u8 (c : Int), strV s]] w (MuR B w0 R S sv fv N (gl hv (hds S N) :: l)) := by
  have hO : Own w _ _ _ _ _ := h.tail.head
  rw [hds_len] at hO
  by_cases h0 : N = 0
  · obtain ⟨va, vc, rfl⟩ := own_shape hO
    subst h0
    have H := Lib.hid h
    have HD := Lib.hid hD
    clear h hD hT hO
    unfold strV at *
    go_enter Tryd.func11, Tryd.ntmps11
    go_wp2_with fail
    go_ret
    exact ⟨S, K, d, _, [], rfl, HD.out, rfl, rfl, by simp, by simp, (H.out.alloc _).nil _ _⟩
  · obtain ⟨gh, ch, rfl, _⟩ := own_some hO (by omega)
    have hlt := (own_lt hO (k := gh) rfl)
    have hka : a % N < N := Nat.mod_lt _ (by omega)
    have hkb : b % N < N := Nat.mod_lt _ (by omega)
    have qa : w.cell? ⟨gh, a % N, none⟩ = some (.int .i64 (S.hd (a % N + 1))) := by
      have := hO.cellAt (a % N) (by omega)
      rw [this, hcells, List.getElem?_map, hds_at S N _ hka]; rfl
    have qb : w.cell? ⟨gh, b % N, none⟩ = some (.int .i64 (S.hd (b % N + 1))) := by
      have := hO.cellAt (b % N) (by omega)
      rw [this, hcells, List.getElem?_map, hds_at S N _ hkb]; rfl
    have hbx : Below w.heap.size w (w.alloc (.cells #[.int .u8 (kd : Int), .int .u8 (a : Int), .int .u8 (b : Int), .int .u8 (c : Int), .string ⟨s.toArray⟩] 50)) := (Below.refl _ _).alloc (Nat.le_refl _) _
    have kx := Blk.new w [.int .u8 (kd : Int), .int .u8 (a : Int), .int .u8 (b : Int), .int .u8 (c : Int), .string ⟨s.toArray⟩] 50
    unfold strV at *
    obtain ⟨va, hva⟩ := Option.isSome_iff_exists.1 (hD.used (a % N + 1) (by rw [hD.len]; omega))
    obtain ⟨vb, hvb⟩ := Option.isSome_iff_exists.1 (hD.used (b % N + 1) (by rw [hD.len]; omega))
    have hN0 : ¬ (N : Int) = 0 := by omega
    have hN1 : ((N : Int) == 0) = false := by simpa using hN0
    have H := Lib.hid h
    have HD := Lib.hid hD
    have HTt := Lib.hid hT
    clear h hD hT hO
    go_enter Tryd.func11, Tryd.ntmps11
    go_upto_region 3 with fail
    have HKX := Lib.hid (show Blk (w.alloc (.cells #[.int .u8 (kd : Int), .int .u8 (a : Int), .int .u8 (b : Int), .int .u8 (c : Int), .string ⟨s.toArray⟩] 50)) w.heap.size _ _ from kx)
    have qa1 := cell_keep hbx qa
    have qb1 := cell_keep hbx qb
    have hl1 := Nat.lt_of_lt_of_le hlt hbx.size
    have HBX := Lib.hid hbx
    clear hbx kx qa qb
    generalize hgx : w.heap.size = gx at *
    generalize w.alloc (.cells #[.int .u8 (kd : Int), .int .u8 (a : Int), .int .u8 (b : Int), .int .u8 (c : Int), .string ⟨s.toArray⟩] 50) = w1 at *
    have hgx1 := HKX.out.lt
    have x0 := HKX.out.cell 0
    have x1 := HKX.out.cell 1
    have x2 := HKX.out.cell 2
    have x3 := HKX.out.cell 3
    have x4 := HKX.out.cell 4
    simp only [List.getElem?_cons_succ, List.getElem?_cons_zero] at x0 x1 x2 x3 x4
    go_quiet (fail)
    have hbx' : Below w.heap.size w w1 := by rw [hgx]; exact HBX.out
    have hA2 := (H.out.still hbx').drewN nq
    have hx2 := Below.drewN hbx' nq
    have hk2 : Blk (w1.drewN nq) gx _ _ := HKX.out
    have HT2 := Lib.hid (HTt.out.below hx2)
    have H2 := Lib.hid hA2
    have HK2 := Lib.hid hk2
    clear hbx' hA2 hx2 hk2 x0 x1 x2 x4 qa1 qb1 HKX HTt H HBX hl1 hgx1
    change (w1.drewN nq).cell? ⟨gx, 3, none⟩ = _ at x3
    generalize w1.drewN nq = w2 at *
    have hc3 : c % 3 < 3 := Nat.mod_lt _ (by omega)
    have hgx2 := HK2.out.lt
    have x3' := cell_keep ((Below.refl _ w2).alloc (Nat.le_refl _) (.cells #[.string ⟨#[99, 108, 97, 115, 115]⟩, .string ⟨#[105, 100]⟩, .string ⟨#[116, 105, 116, 108, 101]⟩] 9)) x3
    obtain ⟨nm, hnm, qn⟩ : ∃ nm, AName nm ∧ (w2.alloc (.cells #[.string ⟨#[99, 108, 97, 115, 115]⟩, .string ⟨#[105, 100]⟩, .string ⟨#[116, 105, 116, 108, 101]⟩] 9)).cell? ⟨w2.heap.size, c % 3, none⟩ = some (.string ⟨nm.toArray⟩) := by
      have hbk := Blk.new w2 [.string ⟨#[99, 108, 97, 115, 115]⟩, .string ⟨#[105, 100]⟩, .string ⟨#[116, 105, 116, 108, 101]⟩] 9
      have h3 : c % 3 = 0 ∨ c % 3 = 1 ∨ c % 3 = 2 := by omega
      rcases h3 with e | e | e
      · exact ⟨_, name_class, by rw [e]; exact hbk.cell 0⟩
      · exact ⟨_, name_id, by rw [e]; exact hbk.cell 1⟩
      · exact ⟨_, name_title, by rw [e]; exact hbk.cell 2⟩
    go_upto_region 5 with fail
    have hb3 : Below w2.heap.size w2 (w2.alloc (.cells #[.string ⟨#[99, 108, 97, 115, 115]⟩, .string ⟨#[105, 100]⟩, .string ⟨#[116, 105, 116, 108, 101]⟩] 9)) := (Below.refl _ _).alloc (Nat.le_refl _) _
    have hA3 := H2.out.still hb3
    have hT3 := HT2.out.below hb3
    have hk3 := HK2.out.below hb3
    clear H2 HT2 HK2 hb3 x3 x3' qn hgx2 hc3
    generalize w2.alloc (.cells #[.string ⟨#[99, 108, 97, 115, 115]⟩, .string ⟨#[105, 100]⟩, .string ⟨#[116, 105, 116, 108, 101]⟩] 9) = w3 at *
    have x0 := hk3.cell 0
    have x3 := hk3.cell 3
    have x4 := hk3.cell 4
    simp only [List.getElem?_cons_succ, List.getElem?_cons_zero] at x0 x3 x4
    have hD := HD.out
    have HI := Lib.hid (fun wx (hb : Below w3.heap.size w3 wx) o ho => op_insert hD (hA3.still hb) (b % N + 1) (a % N + 1) o vb va hvb hva ho)
    have HRm := Lib.hid (op_remove hD hA3 (a % N + 1) va hva (by omega))
    have HSt := Lib.hid (op_setAttr hD hA3 hT3 (a % N + 1) va hva (by omega) nm s hnm hs)
    have HDr := Lib.hid (op_dropAttr hD hA3 (a % N + 1) va hva (by omega) nm)
    have HRp := Lib.hid (op_replace hD hA3 hT3 (a % N + 1) va hva (by omega) (c : Int) (by omega) (by omega) s hs)
    obtain ⟨gs, cs, hsv⟩ := tr_sl hD hA3
    have hTt : TAt 0 R S sv fv w3 := hA3.head
    rw [hsv] at hTt
    have HKd := Lib.hid (kids_any hTt hD.lk (b % N + 1) vb hvb)
    have HX := Lib.hid (fun wx (hb : Below w3.heap.size w3 wx) => (hk3.below hb).cell 3)
    simp only [List.getElem?_cons_succ, List.getElem?_cons_zero] at HX
    have hkl := kids_len hD.lk (b % N + 1)
    have HLk := Lib.hid hD.lk
    clear hTt hsv hD hA3 hT3 hk3
    unfold strV at *
    have h6 : kd % 6 = 0 ∨ kd % 6 = 1 ∨ kd % 6 = 2 ∨ kd % 6 = 3 ∨ kd % 6 = 4 ∨ kd % 6 = 5 := by omega
    rcases h6 with e6 | e6 | e6 | e6 | e6 | e6
    case' inl =>
      have d0 : (((kd : Int) % 6) == 0) = true := by simp; omega
    case' inr.inl =>
      have d0 : (((kd : Int) % 6) == 0) = false := by simp; omega
      have d1 : (((kd : Int) % 6) == 1) = true := by simp; omega
    case' inr.inr.inl =>
      have d0 : (((kd : Int) % 6) == 0) = false := by simp; omega
      have d1 : (((kd : Int) % 6) == 1) = false := by simp; omega
      have d2 : (((kd : Int) % 6) == 2) = true := by simp; omega
      clear e6 HI HSt HDr HRp HKd HX
      go_wp2_with fail
      refine HRm.out.mono ?_
      rintro e w4 ⟨S', K', d', v, er, rs, rfl, q1, q2, q3, q4, q5, q6⟩
      go_wp2_with fail
      go_ret
      exact ⟨S', K', d', v, rs, rfl, q1, q2, q3, q4, q5, q6⟩
    case' inr.inr.inr.inl =>
      have d0 : (((kd : Int) % 6) == 0) = false := by simp; omega
      have d1 : (((kd : Int) % 6) == 1) = false := by simp; omega
      have d2 : (((kd : Int) % 6) == 2) = false := by simp; omega
      have d3 : (((kd : Int) % 6) == 3) = true := by simp; omega
      clear e6 HI HRm HDr HRp HKd HX
      go_wp2_with fail
      refine HSt.out.mono ?_
      rintro e w4 ⟨S', K', d', v, er, rs, rfl, q1, q2, q3, q4, q5, q6⟩
      go_wp2_with fail
      go_ret
      exact ⟨S', K', d', v, rs, rfl, q1, q2, q3, q4, q5, q6⟩
    case' inr.inr.inr.inr.inl =>
      have d0 : (((kd : Int) % 6) == 0) = false := by simp; omega
      have d1 : (((kd : Int) % 6) == 1) = false := by simp; omega
      have d2 : (((kd : Int) % 6) == 2) = false := by simp; omega
      have d3 : (((kd : Int) % 6) == 3) = false := by simp; omega
      have d4 : (((kd : Int) % 6) == 4) = true := by simp; omega
      clear e6 HI HRm HSt HRp HKd HX
      go_wp2_with fail
      refine HDr.out.mono ?_
      rintro e w4 ⟨S', K', d', v, er, rs, rfl, q1, q2, q3, q4, q5, q6⟩
      go_wp2_with fail
      go_ret
      exact ⟨S', K', d', v, rs, rfl, q1, q2, q3, q4, q5, q6⟩
    case' inr.inr.inr.inr.inr =>
      have d0 : (((kd : Int) % 6) == 0) = false := by simp; omega
      have d1 : (((kd : Int) % 6) == 1) = false := by simp; omega
      have d2 : (((kd : Int) % 6) == 2) = false := by simp; omega
      have d3 : (((kd : Int) % 6) == 3) = false := by simp; omega
      have d4 : (((kd : Int) % 6) == 4) = false := by simp; omega
      clear e6 HI HRm HSt HDr HKd HX
      go_wp2_with fail
      refine HRp.out.mono ?_
      rintro e w4 ⟨S', K', d', v, er, rs, rfl, q1, q2, q3, q4, q5, q6⟩
      go_wp2_with fail
      go_ret
      exact ⟨S', K', d', v, rs, rfl, q1, q2, q3, q4, q5, q6⟩
    all_goals
      clear e6 HRm HSt HDr HRp
      go_wp2_with fail
      refine HKd.out.mono ?_
      rintro e w4 ⟨kv, rfl, hown, hb4⟩
      have x34 := HX.out _ hb4
      obtain ⟨ka, kc, rfl⟩ := own_shapeB hown
      by_cases hcl : c < (K (b % N + 1)).length
      · have dc : decide ((c : Int) < ((K (b % N + 1)).length : Int)) = true := by simp; omega
        obtain ⟨x, hx⟩ : ∃ x, (K (b % N + 1))[c]? = some x := ⟨_, List.getElem?_eq_getElem hcl⟩
        obtain ⟨gv, cp, hgv, qx⟩ := own_int hown (j := c) (x := S.hd x) (by rw [List.getElem?_map, hx]; rfl)
        simp only [Value.slice.injEq] at hgv
        obtain ⟨rfl, _, rfl⟩ := hgv
        have HIn := Lib.hid (HI.out w4 hb4 (some x) (fun y hy => by cases hy; exact List.mem_of_getElem? hx))
        rw [show hO S (some x) = S.hd x from rfl] at HIn
        clear hown hx HI HX
        go_wp2_with fail
        refine HIn.out.mono ?_
        rintro e w5 ⟨S', K', d', v, er, rs, rfl, q1, q2, q3, q4, q5, q6⟩
        go_wp2_with fail
        go_ret
        exact ⟨S', K', d', v, rs, rfl, q1, q2, q3, q4, q5, q6⟩
      · have dc : decide ((c : Int) < ((K (b % N + 1)).length : Int)) = false := by simp; omega
        have HIn := Lib.hid (HI.out w4 hb4 none (fun y hy => by cases hy))
        rw [show hO S none = 0 from rfl] at HIn
        clear hown HI HX
        go_wp2_with fail
        refine HIn.out.mono ?_
        rintro e w5 ⟨S', K', d', v, er, rs, rfl, q1, q2, q3, q4, q5, q6⟩
        go_wp2_with fail
        go_ret
        exact ⟨S', K', d', v, rs, rfl, q1, q2, q3, q4, q5, q6⟩
end Go.Proofs.YtfdofkokiaapoaaDoor.W
end
section
/- The contract of Make for an element with a one-letter name and no attributes. -/
namespace Go.Proofs.YtfdofkokiaapoaaDoor.W
open Go.RowKit
set_option linter.unusedVariables false
set_option linter.unusedSimpArgs false

set_option maxRecDepth 100000 in
set_option maxHeartbeats 4000000 in
theorem make_one {B R : Nat} {S : Tr} {sv fv : Value} {w : World} (h : TAt B R S sv fv w) (hf : S.free = []) (hl : S.slots.length < 20000) (c : UInt8) (hc : Ltr c) :
    Calls Tryd.prog 24 #[.pointer (some ⟨R, 0, none⟩), .int .i64 2, .string ⟨#[c]⟩, .string ⟨#[]⟩, .slice none 0 0] w fun e w' => ∃ sv', e = .returned (.tuple #[.int .i64 (S.hd S.slots.length), .int .i64 0]) ∧
      TAt B R (S.snoc (newN 2 [c])) sv' fv w' ∧ Chg (fun k => k = R ∨ sv.ownBlock = some k) w w' ∧ (sv'.ownBlock = sv.ownBlock ∨ ∃ k, sv'.ownBlock = some k ∧ w.heap.size ≤ k) := by
  have HE := Lib.hid (elementName_one c hc)
  have HT := Lib.hid h
  have hlv : S.live ≤ S.slots.length := List.length_filter_le _ _
  have hlt := h.blk.lt
  clear h hc
  go_enter Tryd.func24, Tryd.ntmps24
  go_wp2_with fail
  have hb0 := (Below.refl w.heap.size w).alloc (Nat.le_refl _) (.cells #[.int .i64 2, .string ⟨#[]⟩, .slice none 0 0, .string ⟨#[]⟩, .int .i64 0, .int .i64 0, .int .i64 0, .int .i64 0, .int .i64 0] 106)
  have hx0 := Blk.new w [.int .i64 2, .string ⟨#[]⟩, .slice none 0 0, .string ⟨#[]⟩, .int .i64 0, .int .i64 0, .int .i64 0, .int .i64 0, .int .i64 0] 106
  have HB0 := Lib.hid hb0
  have HX0 := Lib.hid (show Blk (w.alloc (.cells #[.int .i64 2, .string ⟨#[]⟩, .slice none 0 0, .string ⟨#[]⟩, .int .i64 0, .int .i64 0, .int .i64 0, .int .i64 0, .int .i64 0] 106)) _ _ _ from hx0)
  clear hb0 hx0
  generalize w.alloc (.cells #[.int .i64 2, .string ⟨#[]⟩, .slice none 0 0, .string ⟨#[]⟩, .int .i64 0, .int .i64 0, .int .i64 0, .int .i64 0, .int .i64 0] 106) = w1 at *
  refine (HE.out _).mono ?_
  rintro e w2 ⟨rfl, hb2⟩
  go_wp2_with fail
  refine (attrs_nil _).mono ?_
  rintro e w3 ⟨rfl, hb3⟩
  have hb13 := bthen hb2 hb3
  have hx3 := HX0.out.below hb13
  have c1 := hx3.cell 1
  simp only [List.getElem?_cons_succ, List.getElem?_cons_zero] at c1
  have f1 := hx3.free 1
  have HX3 := Lib.hid (hx3.set 1 (.string ⟨#[c]⟩))
  have hB3 := HB0.out.trans (hb13.mono HB0.out.size)
  have hB4 := hB3.setCell (p := ⟨w.heap.size, 1, none⟩) (Nat.le_refl _) (.string ⟨#[c]⟩)
  have HB4 := Lib.hid hB4
  clear hx3 hb2 hb3 hb13 hB3 hB4
  go_upto_region 8 with fail
  clear c1 f1
  generalize w3.setCell ⟨w.heap.size, 1, none⟩ (.string ⟨#[c]⟩) = w4 at *
  go_wp2_with fail
  go_loopw [32] (fun iv wr => iv = .int .i64 0 ∧ wr = w4) (fun _ _ => 0)
  case atStart => exact ⟨rfl, rfl⟩
  case round =>
    obtain ⟨rfl, rfl⟩ := hrel
    have hT4 := HT.out.below HB4.out
    have HL := Lib.hid (len_any hT4)
    have x2 := HX3.out.cell 2
    have x3 := HX3.out.cell 3
    simp only [List.set_cons_succ, List.set_cons_zero, List.getElem?_cons_succ, List.getElem?_cons_zero] at x2 x3
    have HT4 := Lib.hid hT4
    clear hT4
    have d1 : decide ((20000 : Int) ≤ (S.live : Int)) = false := by simp; omega
    go_wp2_with fail
    refine HL.out.mono ?_
    rintro e w5 ⟨rfl, hw⟩
    rw [hw]
    clear hw
    go_wp2_with fail
    refine (long_any ⟨#[]⟩ (by show 0 ≤ _; omega) _).mono ?_
    rintro e w6 ⟨rfl, hw⟩
    rw [hw, show decide (1048576 < (⟨#[]⟩ : ByteArray).size) = false from rfl]
    clear hw
    go_wp2_with fail
    refine (containsFunc_nil _ _).mono ?_
    rintro e w7 ⟨rfl, hw⟩
    rw [hw]
    clear hw d1 x2 x3
    go_upto_region 18 with fail
    have hne := stb_ne wr
    have hgl := HX3.out.lt
    have xs := fun (x : InS (StB wr)) => HX3.out.below x.h
    simp only [List.set_cons_succ, List.set_cons_zero] at xs
    have z0 := fun x => (xs x).cell 0
    have z1 := fun x => (xs x).cell 1
    have z2 := fun x => (xs x).cell 2
    have z3 := fun x => (xs x).cell 3
    have z4 := fun x => (xs x).cell 4
    have z5 := fun x => (xs x).cell 5
    have z6 := fun x => (xs x).cell 6
    have z7 := fun x => (xs x).cell 7
    have z8 := fun x => (xs x).cell 8
    simp only [List.getElem?_cons_succ, List.getElem?_cons_zero] at z0 z1 z2 z3 z4 z5 z6 z7 z8
    have HTX := Lib.hid (fun w9 (hb : Below wr.heap.size wr w9) => add_new (HT4.out.below hb) hf (by omega) (newN 2 [c]) ⟨none, 0, rfl, .inl rfl⟩)
    clear xs
    refine reg_b (fun _ => undef) 4 (by kernel_rfl) (by kernel_rfl) ?_
    simp only [List.take_succ_cons, List.take_zero, List.drop_succ_cons, List.drop_zero]
    repeat (first
      | (refine m_held (by rfl) (by rfl) (fun K hK => ?_); go_big_quiet_step (fail); refine wpQuiet_nil ?_; refine hK.out _ ?_; clear hK K)
      | (refine m_skip (by rfl) ?_; simp only [Act.put, List.setIfInBounds_toArray, List.set_cons_zero, List.set_cons_succ]))
    refine m_nil ?_
    intro w8 h8
    clear z0 z1 z2 z3 z4 z5 z6 z7 z8 hne
    go_wp2_with fail
    refine (HTX.out _ h8).mono ?_
    rintro e w9 ⟨sv', rfl, hT9, hC9, hsv⟩
    have H9 := Lib.hid hT9
    have HC := Lib.hid hC9
    have HS := Lib.hid hsv
    clear hT9 hC9 hsv
    go_wp2_with fail
    go_ret2
    have h8' : Below w.heap.size w w8 := HB4.out.trans (h8.mono HB4.out.size)
    refine ⟨sv', rfl, H9.out, (Chg.of_below h8').trans HC.out (fun _ _ h => h), ?_⟩
    rcases HS.out with e | ⟨k, e, hk⟩
    · exact .inl e
    · exact .inr ⟨k, e, Nat.le_trans h8'.size hk⟩
end Go.Proofs.YtfdofkokiaapoaaDoor.W
end
