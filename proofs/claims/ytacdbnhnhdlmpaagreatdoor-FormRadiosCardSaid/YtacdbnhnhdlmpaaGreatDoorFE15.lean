/- Texts joined: Doc FmO Fst Fnd Fld Fva Fse. -/
import Derived.Test.YtacdbnhnhdlmpaaGreatDoorFE13
import Derived.Test.YtacdbnhnhdlmpaaGreatDoorFE14
import Derived.Test.YtacdbnhnhdlmpaaGreatDoorFE1
import Derived.Test.YtacdbnhnhdlmpaaGreatDoorFE2
import Derived.OwnWalk
set_option maxRecDepth 100000
set_option maxHeartbeats 40000000
set_option linter.unusedVariables false
set_option linter.unusedSimpArgs false
section
namespace Go.Proofs.YtacdbnhnhdlmpaaGreatDoor.W
open Go.RowKit
structure Rc where
  kind : Int
  target : Int
  node : Int
  prev : Int
  next : Int
  index : Int
  name : List UInt8
  old : List UInt8
  had : Bool
  count : Int
  size : Int
def encR (r : Rc) : List Value := recC r.kind r.target r.node r.prev r.next r.index r.name r.old r.had r.count r.size
def trF (R : Nat) (S : Tr) (sv fv : Value) (k : Nat) : Prop := k = R ∨ sv.ownBlock = some k ∨ fv.ownBlock = some k ∨ ∃ i n, S.at i = some n ∧ n.attrs ≠ [] ∧ n.av.ownBlock = some k
theorem attr_blk {B : Nat} {w : World} {v : Value} {l : List Atr} (h : AttrAt B w v l) (hl : l ≠ []) {k : Nat} (hk : v.ownBlock = some k) : ∃ cur, w.heap[k]? = some (.cells cur 85 (0, 0)) := by
  obtain ⟨a, c, rfl, h'⟩ := h
  rcases h' with e | ⟨g, cur, rfl, _, hh, _⟩
  · exact absurd e hl
  · cases hk; exact ⟨cur, hh⟩
theorem trF_ty {R : Nat} {S : Tr} {sv fv : Value} {w : World} (h : TAt 0 R S sv fv w) {k : Nat} (hk : trF R S sv fv k) : ∃ cur t, w.heap[k]? = some (.cells cur t (0, 0)) ∧ t ≠ 152 := by
  rcases hk with rfl | hk | hk | ⟨i, n, hi, hne, hk⟩
  · exact ⟨_, _, h.blk, by decide⟩
  · obtain ⟨cur, hc⟩ := own_ty h.slots hk
    exact ⟨cur, _, hc, by decide⟩
  · obtain ⟨cur, hc⟩ := own_ty h.free hk
    exact ⟨cur, _, hc, by decide⟩
  · obtain ⟨cur, hc⟩ := attr_blk (h.attrs i n (at_slot hi)) hne hk
    exact ⟨cur, _, hc, by decide⟩
def trO (R : Nat) (S : Tr) (sv fv : Value) : Ob where
  P := fun w => TAt 0 R S sv fv w
  F := trF R S sv fv
  here := fun w h k hk => by obtain ⟨cur, t, hc, _⟩ := trF_ty h hk; exact lt_of_block hc
  loc := fun w w' h k => by
    have keep : ∀ {e sz n : Nat} {v : Value} {xs : List Value}, w.ownsRow 0 e sz v n xs → (∀ g, v.ownBlock = some g → trF R S sv fv g) → w'.ownsRow 0 e sz v n xs := fun ho hf => own_kB ho (fun g hg => k g (hf g hg))
    refine ⟨h.blk.kept (k R (.inl rfl)), keep h.slots (fun g hg => .inr (.inl hg)), keep h.free (fun g hg => .inr (.inr (.inl hg))), fun i n hi => ?_, h.base, h.few⟩
    obtain ⟨a, c, e, h'⟩ := h.attrs i n hi
    by_cases hne : n.attrs = []
    · exact ⟨a, c, e, .inl hne⟩
    · rcases h' with e' | ⟨g, cur, e2, hB, hg, hc⟩
      · exact absurd e' hne
      · exact ⟨a, c, e, .inr ⟨g, cur, e2, hB, (k g (.inr (.inr (.inr ⟨i, n, at_of hi, hne, by rw [e, e2]; rfl⟩)))).trans hg, hc⟩⟩
def Keeps (f : Nat → Nd → Nd) : Prop := ∀ x n, (f x n).kind = n.kind ∧ (f x n).av = n.av ∧ (f x n).attrs = n.attrs ∧ (f x n).data = n.data
theorem trF_map {R : Nat} {S S' : Tr} {sv fv : Value} (f : Nat → Nd → Nd) (hf : Keeps f) (hat : ∀ x, S'.at x = (S.at x).map (f x)) (k : Nat) (h : trF R S' sv fv k) : trF R S sv fv k := by
  rcases h with h | h | h | ⟨i, n', hi, hne, hk⟩
  · exact .inl h
  · exact .inr (.inl h)
  · exact .inr (.inr (.inl h))
  · rw [hat] at hi
    obtain ⟨n, hn, rfl⟩ := Option.map_eq_some_iff.1 hi
    obtain ⟨_, h2, h3, _⟩ := hf i n
    exact .inr (.inr (.inr ⟨i, n, hn, by rw [← h3]; exact hne, by rw [← h2]; exact hk⟩))
theorem keeps_link (S : Tr) (l : List Nat) (p j c : Nat) : Keeps (linkN S l p j c) := fun _ _ => ⟨rfl, rfl, rfl, rfl⟩
theorem keeps_cut (S : Tr) (l : List Nat) (p j c : Nat) : Keeps (cutN S l p j c) := fun _ _ => ⟨rfl, rfl, rfl, rfl⟩
def encE (e : FE) : List Value := [.int .i64 (e.at_ : Int), strV e.old, strV e.new, .int .i64 (e.st : Int), .int .i64 (e.en : Int)]
theorem encE_len (e : FE) : (encE e).length = 5 := rfl
theorem encE_one (e : FE) : ∀ u ∈ encE e, u.oneCell' = true := by
  intro u hu
  simp only [encE, List.mem_cons, List.not_mem_nil, or_false] at hu
  rcases hu with rfl | rfl | rfl | rfl | rfl <;> rfl
structure FX where
  node : Int
  dirty : Bool
  touched : Bool
  checked : Bool
  t : FT
  uv : Value
  rv : Value
def fxC (x : FX) : List Value := [.int .i64 x.node, .bool x.dirty, strV x.t.val, .bool x.touched, .bool x.checked, .int .i64 (x.t.st : Int), .int .i64 (x.t.en : Int), x.uv, x.rv]
theorem fxC_len (x : FX) : (fxC x).length = 9 := rfl
def fsL (Q : Nat) (fv : Value) (foc : Int) (X : List FX) : List Ob := bk Q [fv, .int .i64 foc] 30 :: sl 119 9 fv X.length (rows fxC X) :: []
theorem etE : ET Tryz.prog 117 126 5 56 := ET.mk' (z := .agg #[.int .i64 0, .string ⟨#[]⟩, .string ⟨#[]⟩, .int .i64 0, .int .i64 0]) Tryz.underlying117 (by kernel_rfl) rfl (by omega)
theorem etF : ET Tryz.prog 28 119 9 104 := ET.mk' (z := .agg #[.int .i64 0, .bool false, .string ⟨#[]⟩, .bool false, .bool false, .int .i64 0, .int .i64 0, .slice none 0 0, .slice none 0 0]) Tryz.underlying28 (by kernel_rfl) rfl (by omega)
def fixX (X : List FX) (hd : Int) : Option Nat := X.findIdx? fun x => x.node == hd
def idxX (X : List FX) (hd : Int) : Nat := (fixX X hd).getD X.length
def frX (hd : Int) : FX := ⟨hd, false, false, false, ⟨[], 0, 0, [], []⟩, .slice none 0 0, .slice none 0 0⟩
def getX (X : List FX) (hd : Int) : FX := ((fixX X hd).bind fun i => X[i]?).getD (frX hd)
def upX (X : List FX) (hd : Int) (x : FX) : List FX := match fixX X hd with | some i => X.set i x | none => X ++ [x]
theorem fix_some {X : List FX} {hd : Int} {i : Nat} (h : fixX X hd = some i) : i < X.length ∧ X[i]? = some (getX X hd) ∧ (getX X hd).node = hd ∧ ∀ j x, j < i → X[j]? = some x → x.node ≠ hd := by
  obtain ⟨hlt, h1, h2⟩ := List.findIdx?_eq_some_iff_getElem.1 h
  have hg : X[i]? = some (getX X hd) := by
    unfold getX
    rw [h, Option.bind_some, List.getElem?_eq_getElem hlt]
    rfl
  refine ⟨hlt, hg, ?_, fun j x hj hx => ?_⟩
  · rw [List.getElem?_eq_getElem hlt] at hg
    rw [← Option.some.inj hg]
    simpa using h1
  · obtain ⟨hjl, rfl⟩ := List.getElem?_eq_some_iff.1 hx
    have := h2 j hj
    simpa using this
theorem fix_none {X : List FX} {hd : Int} (h : fixX X hd = none) : (∀ x ∈ X, x.node ≠ hd) ∧ getX X hd = frX hd := by
  refine ⟨fun x hx => ?_, by unfold getX; rw [h]; rfl⟩
  rw [fixX, List.findIdx?_eq_none_iff] at h
  have := h x hx
  simpa using this
theorem fix_of {X : List FX} {hd : Int} {i : Nat} {x : FX} (hi : X[i]? = some x) (hx : x.node = hd) (hj : ∀ j y, j < i → X[j]? = some y → y.node ≠ hd) : fixX X hd = some i := by
  obtain ⟨hlt, he⟩ := List.getElem?_eq_some_iff.1 hi
  unfold fixX
  rw [List.findIdx?_eq_some_iff_getElem]
  refine ⟨hlt, by rw [he]; simpa using hx, fun j hj' => ?_⟩
  have := hj j (X[j]'(by omega)) hj' (List.getElem?_eq_getElem (by omega))
  simpa using this
theorem get_node (X : List FX) (hd : Int) : (getX X hd).node = hd := by
  cases h : fixX X hd with
  | none => rw [(fix_none h).2]; rfl
  | some i => exact (fix_some h).2.2.1
theorem up_at (X : List FX) (hd : Int) (x : FX) : (upX X hd x)[idxX X hd]? = some x := by
  unfold upX idxX
  cases h : fixX X hd with
  | none => simp
  | some i => have := (fix_some h).1; simp [this]
theorem up_set (X : List FX) (hd : Int) (x y : FX) : (upX X hd x).set (idxX X hd) y = upX X hd y := by
  unfold upX idxX
  cases h : fixX X hd with
  | none => simp
  | some i => simp
theorem up_self {X : List FX} {hd : Int} {i : Nat} (h : fixX X hd = some i) : upX X hd (getX X hd) = X := by
  obtain ⟨h1, h2, _⟩ := fix_some h
  unfold upX
  rw [h]
  obtain ⟨_, e⟩ := List.getElem?_eq_some_iff.1 h2
  show X.set i (getX X hd) = X
  rw [← e, List.set_getElem_self]
def OneF (hd : Int) (X : List FX) : Prop := X = [] ∨ ∃ x, X = [x] ∧ x.node = hd
theorem OneF.up {hd : Int} {X : List FX} (h : OneF hd X) {x : FX} (hx : x.node = hd) : upX X hd x = [x] ∧ OneF hd (upX X hd x) := by
  have : upX X hd x = [x] := by
    rcases h with rfl | ⟨y, rfl, hy⟩
    · rfl
    · unfold upX
      rw [fix_of (i := 0) (x := y) rfl hy (fun j _ hj => by omega)]
      rfl
  exact ⟨this, .inr ⟨x, this, hx⟩⟩
theorem OneF.len {hd : Int} {X : List FX} (h : OneF hd X) : X.length ≤ 1 := by rcases h with rfl | ⟨y, rfl, _⟩ <;> simp
def ftX (X : List FX) (hd : Int) (v : List UInt8) : FT := if (getX X hd).dirty then (getX X hd).t else FT.of v
structure FInv (X : List FX) (hd : Int) (v : List UInt8) : Prop where
  one : OneF hd X
  new : (getX X hd).dirty = false → (getX X hd).t.undo = [] ∧ (getX X hd).t.redo = []
theorem FInv.nil (hd : Int) (v : List UInt8) : FInv [] hd v := ⟨.inl rfl, fun _ => ⟨rfl, rfl⟩⟩
def fat : Value → Nat → Option Addr
  | .slice (some a) _ _, i => some ⟨a.block, i * 9, none⟩
  | _, _ => none
def fatO (fa : Value) (o : Option Nat) : Option Addr := o.bind (fat fa)
theorem st_shape {B : Nat} {w0 w : World} {Q : Nat} {fa : Value} {foc : Int} {X : List FX} {l : List Ob} (h : All B w0 (fsL Q fa foc X ++ l) w) : (X = [] ∧ fa = .slice none 0 0) ∨ ∃ g cap, fa = .slice (some ⟨g, 0, none⟩) X.length cap ∧ X.length ≤ cap := by
  have hs : Own w 119 9 fa X.length (rows fxC X) := h.P (sl 119 9 fa X.length (rows fxC X)) (by simp [fsL])
  rcases hs.2 with ⟨rfl, hn⟩ | ⟨g, cap, cur, rfl, _, _, hc, _⟩
  · exact .inl ⟨List.eq_nil_of_length_eq_zero hn, rfl⟩
  · exact .inr ⟨g, cap, rfl, hc⟩
theorem st_cell {B : Nat} {w0 w : World} {Q g n cap : Nat} {foc : Int} {X : List FX} {l : List Ob} (h : All B w0 (fsL Q (.slice (some ⟨g, 0, none⟩) n cap) foc X ++ l) w) {i : Nat} {x : FX} (hi : X[i]? = some x) {j : Nat} (hj : j < 9) : w.cell? ⟨g, i * 9 + j, none⟩ = (fxC x)[j]? ∧ w.frozen? ⟨g, i * 9 + j, none⟩ = false := by
  have hs : Own w 119 9 (.slice (some ⟨g, 0, none⟩) n cap) X.length (rows fxC X) := h.P (sl 119 9 (.slice (some ⟨g, 0, none⟩) n cap) X.length (rows fxC X)) (by simp [fsL])
  have hlt := (List.getElem?_eq_some_iff.1 hi).1
  obtain rfl : n = X.length := by
    rcases hs.2 with ⟨e, _⟩ | ⟨g', cap', cur, e, _⟩
    · cases e
    · cases e; rfl
  refine ⟨?_, hs.frozenAt _⟩
  rw [hs.cellAt (i * 9 + j) (by omega), rows_at (enc := fxC) fxC_len X i x hi j hj]
theorem st_blk {B : Nat} {w0 w : World} {Q : Nat} {fa : Value} {foc : Int} {X : List FX} {l : List Ob} (h : All B w0 (fsL Q fa foc X ++ l) w) : Blk w Q [fa, .int .i64 foc] 30 := h.P (bk Q [fa, .int .i64 foc] 30) (by simp [fsL])
set_option maxRecDepth 100000 in
theorem find_any {B : Nat} {w0 w : World} {Q : Nat} {fa : Value} {foc : Int} {X : List FX} {l : List Ob} (h : All B w0 (fsL Q fa foc X ++ l) w) (hd : Int) (hl : X.length ≤ 1000000) :
    Calls Tryz.prog 58 #[.pointer (some ⟨Q, 0, none⟩), .int .i64 hd] w fun e w' => e = .returned (.pointer (fatO fa (fixX X hd))) ∧ w = w' := by
  have c1 := (st_blk h).cell 0
  simp only [List.getElem?_cons_zero] at c1
  rcases st_shape h with ⟨rfl, rfl⟩ | ⟨g, cap, rfl, hcap⟩
  · clear h
    have hf : fatO (.slice none 0 0) (fixX [] hd) = none := rfl
    rw [hf]
    go_enter Tryz.func58, Tryz.ntmps58
    go_wp2_with fail
    go_loop [11] (fun iv => iv = .int .i64 0) (fun iv => 0)
    case atStart => exact rfl
    case round =>
      obtain rfl := hrel
      go_wp2_with fail
      go_ret
      exact ⟨rfl, rfl⟩
  · have hcell : ∀ k y, X[k]? = some y → w.cell? ⟨g, k * 9, none⟩ = some (.int .i64 y.node) := fun k y hy => (st_cell h hy (j := 0) (by omega)).1
    have HC := Lib.hid hcell
    obtain ⟨n, hnn⟩ : ∃ n, X.length = n := ⟨_, rfl⟩
    rw [hnn] at c1 hl
    have HNN := Lib.hid hnn
    have HE : ∀ k y, X[k]? = some y → (y.node ≠ hd ∧ ∀ i, fixX X hd = some i → i ≠ k) ∨ (y.node = hd ∧ ((∀ j z, j < k → X[j]? = some z → z.node ≠ hd) → fixX X hd = some k)) := fun k y hy => by
      by_cases e : y.node = hd
      · exact .inr ⟨e, fun hj => fix_of hy e hj⟩
      · refine .inl ⟨e, fun i hi hk => ?_⟩
        subst hk
        obtain ⟨_, h1, h2, _⟩ := fix_some hi
        rw [hy] at h1
        rw [← Option.some.inj h1] at h2
        exact e h2
    have HEE := Lib.hid HE
    clear h hcell hnn HE hcap
    go_enter Tryz.func58, Tryz.ntmps58
    go_wp2_with fail
    go_loop [11] (fun iv => ∃ k : Nat, k ≤ n ∧ iv = .int .i64 (k : Int) ∧ ∀ j z, j < k → X[j]? = some z → z.node ≠ hd) (fun iv => n - (intOf iv).toNat)
    case atStart => exact ⟨0, Nat.zero_le _, rfl, fun j z hj => by omega⟩
    case round =>
      obtain ⟨k, hk, rfl, hbef⟩ := hrel
      by_cases hkl : k < n
      · obtain ⟨y, hy⟩ : ∃ y, X[k]? = some y := ⟨_, List.getElem?_eq_getElem (by rw [HNN.out]; exact hkl)⟩
        have q0 := HC.out k _ hy
        rcases HEE.out k y hy with ⟨e, _⟩ | ⟨e, hf⟩
        · have HB := Lib.hid hbef
          have HY := Lib.hid hy
          have HN := Lib.hid e
          have e1 : (y.node == hd) = false := by simpa using e
          clear hy hbef e
          generalize hyn : y.node = yn at *
          go_wp2_with fail
          go_round
          case rel =>
            refine ⟨k + 1, by omega, by go_num, fun j z hj hz => ?_⟩
            by_cases hjk : j = k
            · subst hjk
              rw [HY.out] at hz; cases hz
              rw [hyn]; exact HN.out
            · exact HB.out j z (by omega) hz
          case measure => simp [intOf]; omega
        · have HF := Lib.hid (hf hbef)
          rw [e] at q0
          clear hy hbef hf e
          go_wp2_with fail
          go_ret
          refine ⟨?_, rfl⟩
          rw [HF.out]
          rfl
      · obtain rfl : k = n := by omega
        have hf : fixX X hd = none := by
          cases e : fixX X hd with
          | none => rfl
          | some i =>
            obtain ⟨h1, h2, h3, _⟩ := fix_some e
            exact absurd h3 (hbef i _ (by rw [HNN.out] at h1; exact h1) h2)
        have HF := Lib.hid hf
        clear hf hbef
        go_wp2_with fail
        go_ret
        refine ⟨?_, rfl⟩
        rw [HF.out]
        rfl
theorem frX_one (hd : Int) : ∀ u ∈ fxC (frX hd), u.oneCell' = true := by
  intro u hu
  simp only [fxC, frX, List.mem_cons, List.not_mem_nil, or_false] at hu
  rcases hu with rfl | rfl | rfl | rfl | rfl | rfl | rfl | rfl | rfl <;> rfl
theorem fs_set {B : Nat} {w0 w : World} {Q g n cap : Nat} {foc : Int} {X : List FX} {l : List Ob} (h : All B w0 (fsL Q (.slice (some ⟨g, 0, none⟩) n cap) foc X ++ l) w) (hn : n = X.length) {i : Nat} {x : FX} (hi : X[i]? = some x) (x' : FX) (j : Nat) (u : Value) (hj : j < 9) (hx : fxC x' = (fxC x).set j u) : All B w0 (fsL Q (.slice (some ⟨g, 0, none⟩) n cap) foc (X.set i x') ++ l) (w.setCell ⟨g, i * 9 + j, none⟩ u) := by
  subst hn
  have hr := rows_field (enc := fxC) fxC_len X i j x x' u hi hj hx
  have h1 := All.setSl [bk Q [.slice (some ⟨g, 0, none⟩) X.length cap, .int .i64 foc] 30] (l2 := l) h (i * 9 + j) u
  rw [← hr] at h1
  simpa [fsL] using h1
set_option maxRecDepth 100000 in
set_option maxHeartbeats 4000000 in
theorem field_any {B : Nat} {w0 w : World} {Q : Nat} {fa : Value} {foc : Int} {X : List FX} {l : List Ob} (h : All B w0 (fsL Q fa foc X ++ l) w) (hd : Int) (hl : X.length ≤ 100000) :
    Calls Tryz.prog 121 #[.pointer (some ⟨Q, 0, none⟩), .int .i64 hd] w fun e w' => ∃ g cap, e = .returned (.pointer (some ⟨g, idxX X hd * 9, none⟩)) ∧
      All B w0 (fsL Q (.slice (some ⟨g, 0, none⟩) (upX X hd (getX X hd)).length cap) foc (upX X hd (getX X hd)) ++ l) w' := by
  have HF := Lib.hid (find_any h hd (by omega))
  cases hf : fixX X hd with
  | some i =>
    rw [hf] at HF
    have hi := fix_some hf
    rcases st_shape h with ⟨rfl, rfl⟩ | ⟨g, cap, rfl, hcap⟩
    · exact absurd hi.1 (by simp)
    · have H := Lib.hid h
      have e1 : fatO (.slice (some ⟨g, 0, none⟩) X.length cap) (some i) = some ⟨g, i * 9, none⟩ := rfl
      rw [e1] at HF
      have HX := Lib.hid (up_self hf)
      have HI := Lib.hid (show idxX X hd = i by unfold idxX; rw [hf]; rfl)
      clear h hf hi
      go_enter Tryz.func121, Tryz.ntmps121
      go_wp2_with fail
      refine HF.out.mono ?_
      rintro e w1 ⟨rfl, rfl⟩
      go_wp2_with fail
      go_ret
      rw [HX.out, HI.out]
      exact ⟨g, cap, rfl, H.out⟩
  | none =>
    rw [hf] at HF
    have e1 : fatO fa none = none := rfl
    rw [e1] at HF
    have hg := (fix_none hf).2
    have HX := Lib.hid (show upX X hd (getX X hd) = X ++ [frX hd] by unfold upX; rw [hf, hg])
    have HI := Lib.hid (show idxX X hd = X.length by unfold idxX; rw [hf]; rfl)
    have ho : Own w 119 9 fa X.length (rows fxC X) := h.P (sl 119 9 fa X.length (rows fxC X)) (by simp [fsL])
    obtain ⟨aa, ac, rfl⟩ := own_shape ho
    have c1 := (st_blk h).cell 0
    have cf := (st_blk h).free 0
    simp only [List.getElem?_cons_zero] at c1
    have hlt := (st_blk h).lt
    have H := Lib.hid (h.alloc (.cells #[.int .i64 hd, .bool false, .string ⟨#[]⟩, .bool false, .bool false, .int .i64 0, .int .i64 0, .slice none 0 0, .slice none 0 0] 119))
    have hne : w.heap.size ≠ Q := by omega
    clear h hf hg ho
    go_enter Tryz.func121, Tryz.ntmps121
    go_wp2_with fail
    refine HF.out.mono ?_
    rintro e w1 ⟨rfl, rfl⟩
    go_wp2_with (at_builtin; refine wpList_append_all etF [_] H.out (own_at (n := 1) (size := 9) (Blk.new w (fxC (frX hd)) 119) rfl (by omega)) (frX_one hd) (by omega) (by omega) rfl _ _ rfl rfl rfl ?_; intro v' w3 hA3; have hQ3 : Blk w3 Q [.slice aa X.length ac, .int .i64 foc] 30 := hA3.head; have ho3 : Own _ _ _ _ _ _ := hA3.tail.head; obtain ⟨va, vc, rfl, _⟩ := own_some ho3 (by omega); have c3 := hQ3.cell 0; have f3 := hQ3.free 0; simp only [List.getElem?_cons_zero] at c3; have HB := Lib.hid (All.setBk [] hA3 0 (.slice (some ⟨va, 0, none⟩) (X.length + 1) vc)); clear hA3 ho3 hQ3)
    have hB := HB.out
    have k0 : w3.cell? ⟨Q, 0, none⟩ = some (.slice aa X.length ac) := c3
    go_upto_region 5 with fail
    go_quiet (fail)
    all_goals (go_wp2_with fail)
    all_goals go_ret
    all_goals (
      rw [HX.out, HI.out]
      refine ⟨va, vc, rfl, ?_⟩
      have := HB.out
      rw [← show rows fxC (X ++ [frX hd]) = rows fxC X ++ fxC (frX hd) from rows_snoc _ _] at this
      first | simpa [fsL] using this.drewN _ | simpa [fsL] using this)
structure FdOk (B : Nat) (w0 : World) (R : Nat) (O : Ob) (hd : Int) (k : Nat) (v : List UInt8) : Prop where
  kind : ∀ w, O.P w → Below B w0 w → Calls Tryz.prog 31 #[.pointer (some ⟨R, 0, none⟩), .int .i64 hd] w fun e w' => e = .returned (.int .i64 (k : Int)) ∧ Below w.heap.size w w'
  std : ∀ w, O.P w → Below B w0 w → Calls Tryz.prog 60 #[.pointer (some ⟨R, 0, none⟩), .int .i64 hd] w fun e w' => e = .returned (.string ⟨v.toArray⟩) ∧ Below w.heap.size w w'
section
variable {B : Nat} {w0 w : World} {Q R : Nat} {fa : Value} {foc hd : Int} {X : List FX} {l : List Ob} {O : Ob} {k : Nat} {v : List UInt8}
theorem FdOk.kindA (hF : FdOk B w0 R O hd k v) {l : List Ob} (hO : O ∈ l) {w : World} (h : All B w0 l w) : Calls Tryz.prog 31 #[.pointer (some ⟨R, 0, none⟩), .int .i64 hd] w fun e w' => e = .returned (.int .i64 (k : Int)) ∧ Below w.heap.size w w' := hF.kind w (h.P O hO) h.below
theorem FdOk.stdA (hF : FdOk B w0 R O hd k v) {l : List Ob} (hO : O ∈ l) {w : World} (h : All B w0 l w) : Calls Tryz.prog 60 #[.pointer (some ⟨R, 0, none⟩), .int .i64 hd] w fun e w' => e = .returned (.string ⟨v.toArray⟩) ∧ Below w.heap.size w w' := hF.std w (h.P O hO) h.below
theorem written_any (k : Nat) (w : World) : Calls Tryz.prog 59 #[.int .i64 (k : Int)] w fun e w' => e = .returned (.bool (decide (k = 1 ∨ k = 2))) ∧ w' = w := by
  by_cases h1 : k = 1
  · subst h1
    go_enter Tryz.func59, Tryz.ntmps59
    go_wp2_with fail
    go_ret
    exact ⟨rfl, rfl⟩
  · by_cases h2 : k = 2
    · subst h2
      go_enter Tryz.func59, Tryz.ntmps59
      go_wp2_with fail
      go_ret
      exact ⟨rfl, rfl⟩
    · have e1 : ((k : Int) == 1) = false := by simp; omega
      have e2 : ((k : Int) == 2) = false := by simp; omega
      have e3 : decide (k = 1 ∨ k = 2) = false := by simp; omega
      rw [e3]
      go_enter Tryz.func59, Tryz.ntmps59
      go_wp2_with fail
      go_ret
      exact ⟨rfl, rfl⟩
theorem written_yes {k : Nat} (hk : k = 1 ∨ k = 2) (w : World) : Calls Tryz.prog 59 #[.int .i64 (k : Int)] w fun e w' => e = .returned (.bool true) ∧ w' = w := by
  have := written_any k w
  rwa [decide_eq_true hk] at this
def valX (X : List FX) (hd : Int) (v : List UInt8) : List UInt8 := if (getX X hd).dirty then (getX X hd).t.val else v
theorem valX_ft (X : List FX) (hd : Int) (v : List UInt8) : valX X hd v = (ftX X hd v).val := by unfold valX ftX; split <;> rfl
theorem get_cell (h : All B w0 (fsL Q fa foc X ++ l) w) {i : Nat} (hi : fixX X hd = some i) : ∃ g cap, fa = .slice (some ⟨g, 0, none⟩) X.length cap ∧ fatO fa (fixX X hd) = some ⟨g, i * 9, none⟩ ∧ ∀ j, j < 9 → w.cell? ⟨g, i * 9 + j, none⟩ = (fxC (getX X hd))[j]? ∧ w.frozen? ⟨g, i * 9 + j, none⟩ = false := by
  obtain ⟨h1, h2, _⟩ := fix_some hi
  rcases st_shape h with ⟨rfl, rfl⟩ | ⟨g, cap, rfl, hcap⟩
  · simp at h1
  · exact ⟨g, cap, rfl, by rw [hi]; rfl, fun j hj => st_cell h h2 hj⟩
set_option maxRecDepth 100000 in
set_option maxHeartbeats 4000000 in
theorem value_any (h : All B w0 (fsL Q fa foc X ++ l) w) (hO : O ∈ fsL Q fa foc X ++ l) (hF : FdOk B w0 R O hd k v) (hk : k ≠ 0) (hkd : (getX X hd).dirty = true → k = 1 ∨ k = 2) (hl : X.length ≤ 100000) :
    Calls Tryz.prog 15 #[.pointer (some ⟨Q, 0, none⟩), .pointer (some ⟨R, 0, none⟩), .int .i64 hd] w fun e w' => e = .returned (.tuple #[.string ⟨(valX X hd v).toArray⟩, .int .i64 0]) ∧ Below w.heap.size w w' := by
  have HK := Lib.hid (hF.kindA hO h)
  have HS := Lib.hid (fun wx (hb : Below w.heap.size w wx) => hF.stdA hO (h.still hb))
  have HFd := Lib.hid (fun wx (hb : Below w.heap.size w wx) => find_any (h.still hb) hd (by omega))
  have e0 : ((k : Int) == 0) = false := by simp; omega
  cases hf : fixX X hd with
  | none =>
    have hv : valX X hd v = v := by unfold valX; rw [(fix_none hf).2]; rfl
    rw [hf] at HFd
    rw [hv]
    have e1 : fatO fa none = none := rfl
    rw [e1] at HFd
    clear h hkd hF hO hf hv
    go_enter Tryz.func15, Tryz.ntmps15
    go_wp2_with fail
    refine HK.out.mono ?_
    rintro e w1 ⟨rfl, hb1⟩
    go_wp2_with fail
    refine (HFd.out _ hb1).mono ?_
    rintro e w2 ⟨rfl, hw⟩
    subst hw
    go_wp2_with fail
    refine (HS.out _ hb1).mono ?_
    rintro e w3 ⟨rfl, hb3⟩
    go_wp2_with fail
    go_ret2
    exact ⟨rfl, bthen hb1 hb3⟩
  | some i =>
    have HC := Lib.hid (fun wx (hb : Below w.heap.size w wx) => get_cell (h.still hb) hf)
    obtain ⟨g, cap, rfl, he, _⟩ := get_cell h hf
    rw [he] at HFd
    have HC := Lib.hid (fun wx (hb : Below w.heap.size w wx) j (hj : j < 9) => st_cell (h.still hb) (fix_some hf).2.1 hj)
    unfold valX
    generalize getX X hd = x at *
    clear h hF hO hf he
    cases hx : x.dirty with
    | false =>
      clear hkd
      go_enter Tryz.func15, Tryz.ntmps15
      go_wp2_with fail
      refine HK.out.mono ?_
      rintro e w1 ⟨rfl, hb1⟩
      go_wp2_with fail
      refine (HFd.out _ hb1).mono ?_
      rintro e w2 ⟨rfl, hw⟩
      subst hw
      have c1 := (HC.out _ hb1 1 (by omega)).1
      rw [show (fxC x)[1]? = some (.bool x.dirty) from rfl, hx] at c1
      clear hx
      go_wp2_with fail
      refine (HS.out _ hb1).mono ?_
      rintro e w3 ⟨rfl, hb3⟩
      go_wp2_with fail
      go_ret2
      exact ⟨rfl, bthen hb1 hb3⟩
    | true =>
      have HW := Lib.hid (written_yes (hkd hx))
      clear hkd
      go_enter Tryz.func15, Tryz.ntmps15
      go_wp2_with fail
      refine HK.out.mono ?_
      rintro e w1 ⟨rfl, hb1⟩
      go_wp2_with fail
      refine (HFd.out _ hb1).mono ?_
      rintro e w2 ⟨rfl, hw⟩
      subst hw
      have c1 := (HC.out _ hb1 1 (by omega)).1
      have c2 := (HC.out _ hb1 2 (by omega)).1
      rw [show (fxC x)[1]? = some (.bool x.dirty) from rfl, hx] at c1
      rw [show (fxC x)[2]? = some (strV x.t.val) from rfl] at c2
      simp only [strV] at c2
      clear hx
      go_wp2_with fail
      refine (HW.out _).mono ?_
      rintro e w3 ⟨rfl, hw⟩
      subst hw
      go_wp2_with fail
      go_ret2
      exact ⟨rfl, hb1⟩
end
section
variable {B : Nat} {w0 w : World} {Q R : Nat} {fa : Value} {foc hd : Int} {X : List FX} {l : List Ob} {O : Ob} {k : Nat} {v : List UInt8}
theorem len_n (l : List UInt8) (w : World) (hs : l.length ≤ 10000000) : Calls Tryz.prog 61 #[.string ⟨l.toArray⟩] w fun e w' => e = .returned (.int .i64 (nL l : Int)) ∧ Below w.heap.size w w' := by
  have := len_text l w (by omega)
  rw [runeCount_is] at this
  exact this
def dirtX (x : FX) (v : List UInt8) : FX := if x.dirty then x else { x with dirty := true, t := { x.t with val := v, st := nL v, en := nL v } }
theorem dirtX_node (x : FX) (v : List UInt8) : (dirtX x v).node = x.node ∧ (dirtX x v).dirty = true := by
  unfold dirtX
  split
  · exact ⟨rfl, by assumption⟩
  · exact ⟨rfl, rfl⟩
theorem dirtX_uv (x : FX) (v : List UInt8) : (dirtX x v).uv = x.uv ∧ (dirtX x v).rv = x.rv := by unfold dirtX; split <;> exact ⟨rfl, rfl⟩
theorem dirtX_t {X : List FX} {hd : Int} {v : List UInt8} (h : FInv X hd v) : (dirtX (getX X hd) v).t = ftX X hd v := by
  unfold dirtX ftX
  split
  · rfl
  · rename_i e
    obtain ⟨h1, h2⟩ := h.new (by simpa using e)
    simp only [FT.of, h1, h2]
set_option maxRecDepth 100000 in
set_option maxHeartbeats 4000000 in
theorem selection_any (h : All B w0 (fsL Q fa foc X ++ l) w) (hO : O ∈ fsL Q fa foc X ++ l) (hF : FdOk B w0 R O hd k v) (hk : k = 1 ∨ k = 2) (hl : X.length ≤ 100000) (hst : (ftX X hd v).st ≤ nL (ftX X hd v).val) (hen : (ftX X hd v).en ≤ nL (ftX X hd v).val) (hln : (ftX X hd v).val.length ≤ 10000000) :
    Calls Tryz.prog 16 #[.pointer (some ⟨Q, 0, none⟩), .pointer (some ⟨R, 0, none⟩), .int .i64 hd] w fun e w' => e = .returned (.tuple #[.int .i64 ((ftX X hd v).st : Int), .int .i64 ((ftX X hd v).en : Int), .int .i64 0]) ∧ Below w.heap.size w w' := by
  have HK := Lib.hid (hF.kindA hO h)
  have HW := Lib.hid (written_yes hk)
  have HV := Lib.hid (fun wx (hb : Below w.heap.size w wx) => value_any (h.still hb) hO hF (by omega) (fun _ => hk) hl)
  have HFd := Lib.hid (fun wx (hb : Below w.heap.size w wx) => find_any (h.still hb) hd (by omega))
  rw [valX_ft] at HV
  have HL := Lib.hid (fun wx => len_n (ftX X hd v).val wx hln)
  have hnl := nL_le (ftX X hd v).val
  cases hf : fixX X hd with
  | none =>
    have hft : ftX X hd v = FT.of v := by unfold ftX; rw [(fix_none hf).2]; rfl
    rw [hf] at HFd
    have e1 : fatO fa none = none := rfl
    rw [e1] at HFd
    rw [hft] at HV HL hst hen hln hnl ⊢
    simp only [FT.of] at *
    clear h hF hO hf hft
    generalize nL v = n at *
    go_enter Tryz.func16, Tryz.ntmps16
    go_wp2_with fail
    refine HK.out.mono ?_
    rintro e w1 ⟨rfl, hb1⟩
    go_wp2_with fail
    refine (HW.out _).mono ?_
    rintro e w2 ⟨rfl, hw⟩
    subst hw
    go_wp2_with fail
    refine (HV.out _ hb1).mono ?_
    rintro e w3 ⟨rfl, hb3⟩
    have hb3' := bthen hb1 hb3
    go_wp2_with fail
    refine (HL.out _).mono ?_
    rintro e w4 ⟨rfl, hb4⟩
    have hb4' := bthen hb3' hb4
    go_wp2_with fail
    refine (HFd.out _ hb4').mono ?_
    rintro e w5 ⟨rfl, hw⟩
    subst hw
    go_wp2_with fail
    go_ret3
    exact ⟨rfl, hb4'⟩
  | some i =>
    obtain ⟨g, cap, rfl, he, _⟩ := get_cell h hf
    rw [he] at HFd
    have HC := Lib.hid (fun wx (hb : Below w.heap.size w wx) j (hj : j < 9) => st_cell (h.still hb) (fix_some hf).2.1 hj)
    clear h hF hO hf he
    cases hx : (getX X hd).dirty with
    | false =>
      have hft : ftX X hd v = FT.of v := by unfold ftX; rw [hx]; rfl
      rw [hft] at HV HL hst hen hln hnl ⊢
      simp only [FT.of] at *
      generalize nL v = n at *
      go_enter Tryz.func16, Tryz.ntmps16
      go_wp2_with fail
      refine HK.out.mono ?_
      rintro e w1 ⟨rfl, hb1⟩
      go_wp2_with fail
      refine (HW.out _).mono ?_
      rintro e w2 ⟨rfl, hw⟩
      subst hw
      go_wp2_with fail
      refine (HV.out _ hb1).mono ?_
      rintro e w3 ⟨rfl, hb3⟩
      have hb3' := bthen hb1 hb3
      go_wp2_with fail
      refine (HL.out _).mono ?_
      rintro e w4 ⟨rfl, hb4⟩
      have hb4' := bthen hb3' hb4
      go_wp2_with fail
      refine (HFd.out _ hb4').mono ?_
      rintro e w5 ⟨rfl, hw⟩
      subst hw
      have c1 := (HC.out _ hb4' 1 (by omega)).1
      rw [show (fxC (getX X hd))[1]? = some (.bool (getX X hd).dirty) from rfl, hx] at c1
      clear hx
      go_wp2_with fail
      go_ret3
      exact ⟨rfl, hb4'⟩
    | true =>
      have hft : ftX X hd v = (getX X hd).t := by unfold ftX; rw [hx]; rfl
      rw [hft] at HV HL hst hen hln hnl ⊢
      clear hft
      generalize getX X hd = x at *
      generalize nL x.t.val = n at *
      have m1 : min (x.t.st : Int) (n : Int) = x.t.st := by omega
      have m2 : min (x.t.en : Int) (n : Int) = x.t.en := by omega
      go_enter Tryz.func16, Tryz.ntmps16
      go_wp2_with fail
      refine HK.out.mono ?_
      rintro e w1 ⟨rfl, hb1⟩
      go_wp2_with fail
      refine (HW.out _).mono ?_
      rintro e w2 ⟨rfl, hw⟩
      subst hw
      go_wp2_with fail
      refine (HV.out _ hb1).mono ?_
      rintro e w3 ⟨rfl, hb3⟩
      have hb3' := bthen hb1 hb3
      go_wp2_with fail
      refine (HL.out _).mono ?_
      rintro e w4 ⟨rfl, hb4⟩
      have hb4' := bthen hb3' hb4
      go_wp2_with fail
      refine (HFd.out _ hb4').mono ?_
      rintro e w5 ⟨rfl, hw⟩
      subst hw
      have c1 := (HC.out _ hb4' 1 (by omega)).1
      have c5 := (HC.out _ hb4' 5 (by omega)).1
      have c6 := (HC.out _ hb4' 6 (by omega)).1
      rw [show (fxC x)[1]? = some (.bool x.dirty) from rfl, hx] at c1
      rw [show (fxC x)[5]? = some (.int .i64 (x.t.st : Int)) from rfl] at c5
      rw [show (fxC x)[6]? = some (.int .i64 (x.t.en : Int)) from rfl] at c6
      clear hx
      go_upto_region 7 with fail
      go_quiet (fail)
      all_goals (go_wp2_with fail)
      all_goals go_ret3
      all_goals (
        refine ⟨?_, by first | exact hb4' | exact Below.drewN hb4' _⟩
        simp [m1, m2])
set_option maxRecDepth 100000 in
set_option maxHeartbeats 4000000 in
theorem dirty_any (h : All B w0 (fsL Q fa foc X ++ l) w) (hO : O ∈ l) (hF : FdOk B w0 R O hd k v) (hl : X.length ≤ 100000) (hv : v.length ≤ 10000000) :
    Calls Tryz.prog 65 #[.pointer (some ⟨Q, 0, none⟩), .pointer (some ⟨R, 0, none⟩), .int .i64 hd] w fun e w' => ∃ g cap, e = .returned (.pointer (some ⟨g, idxX X hd * 9, none⟩)) ∧
      All B w0 (fsL Q (.slice (some ⟨g, 0, none⟩) (upX X hd (dirtX (getX X hd) v)).length cap) foc (upX X hd (dirtX (getX X hd) v)) ++ l) w' := by
  have HFi := Lib.hid (field_any h hd hl)
  have HS := Lib.hid (fun X' fa' wx (hA : All B w0 (fsL Q fa' foc X' ++ l) wx) => hF.stdA (List.mem_append_right _ hO) hA)
  have HL := Lib.hid (fun wx => len_n v wx hv)
  clear h
  have hi := up_at X hd (getX X hd)
  have hset : ∀ y, (upX X hd (getX X hd)).set (idxX X hd) y = upX X hd y := fun y => up_set X hd _ y
  have hlen : ∀ y, (upX X hd y).length = (upX X hd (getX X hd)).length := fun y => by rw [← hset y, List.length_set]
  generalize getX X hd = x at *
  go_enter Tryz.func65, Tryz.ntmps65
  go_wp2_with fail
  refine HFi.out.mono ?_
  rintro e w1 ⟨g, cap, rfl, hA⟩
  obtain ⟨c1, f1⟩ := st_cell hA hi (j := 1) (by omega)
  rw [show (fxC x)[1]? = some (.bool x.dirty) from rfl] at c1
  cases hx : x.dirty with
  | true =>
    rw [hx] at c1
    have HA := Lib.hid hA
    have HD := Lib.hid (show dirtX x v = x by unfold dirtX; rw [hx]; rfl)
    clear hA hi hset hlen hx f1
    go_wp2_with fail
    go_ret
    rw [HD.out]
    exact ⟨g, cap, rfl, HA.out⟩
  | false =>
    rw [hx] at c1
    have HD := Lib.hid (show dirtX x v = { x with dirty := true, t := { x.t with val := v, st := nL v, en := nL v } } by unfold dirtX; rw [hx]; rfl)
    have hA2 := fs_set hA rfl hi { x with dirty := true } 1 (.bool true) (by omega) (by rfl)
    rw [hset] at hA2
    have HA2 := Lib.hid hA2
    have HN := Lib.hid hlen
    have hat : ∀ y, (upX X hd y)[idxX X hd]? = some y := fun y => up_at X hd y
    have HAt := Lib.hid hat
    have HSet := Lib.hid (fun y z => up_set X hd y z)
    generalize (upX X hd x).length = n at *
    generalize hii : idxX X hd = i at *
    have HI := Lib.hid hii
    clear hA hA2 hset hlen hx hat hi hii
    go_wp2_with fail
    refine (HS.out _ _ _ HA2.out).mono ?_
    rintro e w3 ⟨rfl, hb3⟩
    have hA3 := HA2.out.still hb3
    obtain ⟨c2, f2⟩ := st_cell hA3 (HAt.out _) (j := 2) (by omega)
    have hA4 := fs_set hA3 (HN.out _).symm (HAt.out _) { x with dirty := true, t := { x.t with val := v } } 2 (.string ⟨v.toArray⟩) (by omega) (by rfl)
    rw [HSet.out] at hA4
    have HA4 := Lib.hid hA4
    clear hA3 hb3 hA4 c1 f1
    go_wp2_with fail
    refine (HL.out _).mono ?_
    rintro e w5 ⟨rfl, hb5⟩
    have hA5 := HA4.out.still hb5
    obtain ⟨c5, f5⟩ := st_cell hA5 (HAt.out _) (j := 5) (by omega)
    obtain ⟨c6, f6⟩ := st_cell hA5 (HAt.out _) (j := 6) (by omega)
    have hA6 := fs_set hA5 (HN.out _).symm (HAt.out _) { x with dirty := true, t := { x.t with val := v, st := nL v } } 5 (.int .i64 (nL v : Int)) (by omega) (by rfl)
    rw [HSet.out] at hA6
    have hA7 := fs_set hA6 (HN.out _).symm (HAt.out _) { x with dirty := true, t := { x.t with val := v, st := nL v, en := nL v } } 6 (.int .i64 (nL v : Int)) (by omega) (by rfl)
    rw [HSet.out] at hA7
    have HA7 := Lib.hid hA7
    clear hA5 hb5 hA6 hA7 c2 f2
    go_wp2_with fail
    go_ret
    rw [HD.out]
    rw [HI.out]
    refine ⟨g, cap, rfl, ?_⟩
    rw [HN.out]
    exact HA7.out
end
end Go.Proofs.YtacdbnhnhdlmpaaGreatDoor.W
end
