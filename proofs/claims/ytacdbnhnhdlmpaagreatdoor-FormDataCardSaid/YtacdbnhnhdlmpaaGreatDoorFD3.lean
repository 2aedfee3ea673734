/- Texts joined: DcP OpD Spc. -/
import Derived.Test.YtacdbnhnhdlmpaaGreatDoorFD2
set_option maxRecDepth 100000
set_option maxHeartbeats 40000000
set_option linter.unusedVariables false
set_option linter.unusedSimpArgs false
section
namespace Go.Proofs.YtacdbnhnhdlmpaaGreatDoor.W
open Go.RowKit
theorem ix_eq {S : Tr} {h : Int} {i : Nat} (hl : S.slots.length ≤ 1000000) (k : S.ix h = some i) : h = S.hd i := by
  obtain ⟨h1, h2, _⟩ := ix_some k
  unfold Tr.hd
  rw [hdl_val _ _ _ (by omega)]
  unfold idx at h1
  split at h1
  · omega
  · rename_i hc
    have h3 : (h - bnd S.b) % bnd S.s = 0 := Classical.byContradiction fun q => hc (.inr (.inl q))
    have := Int.mul_ediv_add_emod (h - bnd S.b) (bnd S.s)
    rw [h1, h3] at this
    omega
def nmV (n : Nd) : List UInt8 := (attV n sName).getD []
def isR (S : Tr) (d : Nat → Nat) (ow : Int) (nm : List UInt8) (x : Nat) : Bool := match S.at x with
  | some n => kindN n == 4 && hO S (ownI S d x) == ow && nmV n == nm
  | none => false
def grp (S : Tr) (K : Nat → List Nat) (d : Nat → Nat) (i : Nat) (n : Nd) : List Nat :=
  if nmV n = [] then [i] else (ord K d).filter (isR S d (hO S (ownI S d i)) (nmV n))
section
variable {S : Tr} {K : Nat → List Nat} {d : Nat → Nat}
theorem DcOk.pr0 (D : DcOk S K d) : pr S 0 = none := by
  obtain ⟨n, h, _⟩ := D.ok.doc
  have := (D.lk.top 0 n h D.ok.nodoc).1
  unfold pr
  rw [h, Option.bind_some, this]
  exact ix_zero S
theorem DcOk.dt (D : DcOk S K d) : ∀ x n, S.at x = some n → n.data.length ≤ 20000 := fun i n hi => by have := (D.ok.nd i n hi).dl; omega
theorem DcOk.top (D : DcOk S K d) : ∀ (m x : Nat), d x = m → (S.at x).isSome = true → topF S (d x) x = 0 := by
  intro m
  induction m using Nat.strongRecOn with
  | ind m ih =>
    intro x hm hx
    by_cases h0 : x = 0
    · subst h0
      rw [D.d0]
      simp only [topF, D.pr0]
    · obtain ⟨q, hq⟩ := D.att x hx h0
      have hd := D.lk.dep q x hq
      rw [hd]
      simp only [topF, pr_kid D.lk hq]
      exact ih (d q) (by omega) q rfl (D.lk.kin q x hq).1
theorem grp_live (D : DcOk S K d) {i : Nat} {n : Nd} (hi : S.at i = some n) : ∀ x ∈ grp S K d i n, (S.at x).isSome = true := by
  intro x hx
  unfold grp at hx
  split at hx
  · rw [List.mem_singleton] at hx; rw [hx, hi]; rfl
  · exact D.ord_live (List.mem_filter.1 hx).1
theorem grp_len (D : DcOk S K d) (i : Nat) (n : Nd) : (grp S K d i n).length ≤ 100 := by
  unfold grp
  split
  · simp
  · exact Nat.le_trans (List.length_filter_le _ _) D.ord_len
def ndH (S : Tr) (h : Int) : Option (Nat × Nd) := (S.ix h).bind fun i => (S.at i).map fun n => (i, n)
def gH (S : Tr) (K : Nat → List Nat) (d : Nat → Nat) (h : Int) : List Int := match ndH S h with
  | some (i, n) => (grp S K d i n).map S.hd
  | none => []
def rdH (S : Tr) (h : Int) : Bool := match ndH S h with
  | some (_, n) => kindN n == 4
  | none => false
def atH (S : Tr) (h : Int) : Bool := match ndH S h with
  | some (_, n) => (attV n sChecked).isSome
  | none => false
theorem ndH_hd (D : DcOk S K d) {i : Nat} {n : Nd} (hi : S.at i = some n) : ndH S (S.hd i) = some (i, n) := by
  unfold ndH
  rw [hd_ix D.lk hi, Option.bind_some, hi]; rfl
theorem ndH_some (D : DcOk S K d) {h : Int} {i : Nat} {n : Nd} (e : ndH S h = some (i, n)) : S.at i = some n ∧ h = S.hd i := by
  unfold ndH at e
  obtain ⟨k, h1, h2⟩ := Option.bind_eq_some_iff.1 e
  obtain ⟨m, h3, h4⟩ := Option.map_eq_some_iff.1 h2
  cases h4
  exact ⟨h3, ix_eq D.lk.few h1⟩
theorem gH_hd (D : DcOk S K d) {i : Nat} {n : Nd} (hi : S.at i = some n) : gH S K d (S.hd i) = (grp S K d i n).map S.hd := by unfold gH; rw [ndH_hd D hi]
theorem rdH_hd (D : DcOk S K d) {i : Nat} {n : Nd} (hi : S.at i = some n) : rdH S (S.hd i) = (kindN n == 4) := by unfold rdH; rw [ndH_hd D hi]
theorem atH_hd (D : DcOk S K d) {i : Nat} {n : Nd} (hi : S.at i = some n) : atH S (S.hd i) = (attV n sChecked).isSome := by unfold atH; rw [ndH_hd D hi]
theorem rdH_ex (D : DcOk S K d) {h : Int} (e : rdH S h = true) : ∃ i n, S.at i = some n ∧ h = S.hd i ∧ kindN n = 4 := by
  unfold rdH at e
  split at e
  · rename_i i n hq
    obtain ⟨h1, h2⟩ := ndH_some D hq
    exact ⟨i, n, h1, h2, by simpa using e⟩
  · cases e
theorem isR_self {i : Nat} {n : Nd} (hi : S.at i = some n) (hk : kindN n = 4) : isR S d (hO S (ownI S d i)) (nmV n) i = true := by
  unfold isR
  rw [hi]
  simp [hk]
theorem grp_self (D : DcOk S K d) {i : Nat} {n : Nd} (hi : S.at i = some n) (hk : kindN n = 4) : i ∈ grp S K d i n := by
  unfold grp
  split
  · simp
  · exact List.mem_filter.2 ⟨D.mem_ord (by rw [hi]; rfl), isR_self hi hk⟩
theorem grp_mem (D : DcOk S K d) {i x : Nat} {n : Nd} (hi : S.at i = some n) (hk : kindN n = 4) (hx : x ∈ grp S K d i n) : ∃ nx, S.at x = some nx ∧ kindN nx = 4 ∧ grp S K d x nx = grp S K d i n := by
  by_cases hn : nmV n = []
  · have e : grp S K d i n = [i] := by unfold grp; rw [if_pos hn]
    rw [e, List.mem_singleton] at hx
    subst hx
    exact ⟨n, hi, hk, rfl⟩
  · have e : grp S K d i n = (ord K d).filter (isR S d (hO S (ownI S d i)) (nmV n)) := by unfold grp; rw [if_neg hn]
    rw [e] at hx
    obtain ⟨h1, h2⟩ := List.mem_filter.1 hx
    unfold isR at h2
    split at h2
    · rename_i nx hnx
      simp only [Bool.and_eq_true, beq_iff_eq] at h2
      refine ⟨nx, hnx, h2.1.1, ?_⟩
      unfold grp
      rw [if_neg hn, if_neg (by rw [h2.2]; exact hn), h2.2, h2.1.2]
    · cases h2
theorem map_nd (D : DcOk S K d) {l : List Nat} (h : l.Nodup) (hl : ∀ x ∈ l, (S.at x).isSome = true) : (l.map S.hd).Nodup := by
  rw [List.nodup_iff_pairwise_ne, List.pairwise_map]
  exact List.Pairwise.imp_of_mem (fun ha hb hne e => hne (D.hd_inj (hl _ ha) (hl _ hb) e)) h
theorem grp_nd (D : DcOk S K d) (i : Nat) (n : Nd) : (grp S K d i n).Nodup := by
  unfold grp
  split
  · simp
  · exact D.ord_nd.filter _
theorem gr_ok (D : DcOk S K d) : GrOk (gH S K d) (rdH S) := by
  refine ⟨fun h hr => ?_, fun h => ?_, fun a b hr hb => ?_, fun a b hr hb => ?_⟩
  · obtain ⟨i, n, hi, rfl, hk⟩ := rdH_ex D hr
    rw [gH_hd D hi]
    exact List.mem_map_of_mem (grp_self D hi hk)
  · cases e : ndH S h with
    | none => unfold gH; rw [e]; exact List.nodup_nil
    | some p =>
      obtain ⟨i, n⟩ := p
      obtain ⟨hi, rfl⟩ := ndH_some D e
      rw [gH_hd D hi]
      exact map_nd D (grp_nd D i n) (grp_live D hi)
  · obtain ⟨i, n, hi, rfl, hk⟩ := rdH_ex D hr
    rw [gH_hd D hi] at hb ⊢
    obtain ⟨x, hx, rfl⟩ := List.mem_map.1 hb
    obtain ⟨nx, h1, h2, h3⟩ := grp_mem D hi hk hx
    rw [gH_hd D h1, h3]
  · obtain ⟨i, n, hi, rfl, hk⟩ := rdH_ex D hr
    rw [gH_hd D hi] at hb
    obtain ⟨x, hx, rfl⟩ := List.mem_map.1 hb
    obtain ⟨nx, h1, h2, h3⟩ := grp_mem D hi hk hx
    rw [rdH_hd D h1, h2]; rfl
end
def uX (X : List FX) (h : Int) : Option Bool := if (getX X h).touched then some (getX X h).checked else none
def toX (x : FX) (on : Bool) : FX := { x with touched := true, checked := on }
def touX (X : List FX) (h : Int) (on : Bool) : List FX := upX X h (toX (getX X h) on)
theorem uX_touch (X : List FX) (h : Int) (on : Bool) (x : Int) : uX (touX X h on) x = if x = h then some on else uX X x := by
  have hn : (toX (getX X h) on).node = h := get_node X h
  unfold uX touX
  by_cases e : x = h
  · subst e
    rw [up_get X hn, if_pos rfl]; rfl
  · rw [get_other X hn e, if_neg e]
def touL (X : List FX) : List Int → List FX
  | [] => X
  | a :: l => touL (touX X a false) l
theorem uX_touL (X : List FX) (l : List Int) (x : Int) : uX (touL X l) x = if x ∈ l then some false else uX X x := by
  induction l generalizing X with
  | nil => simp [touL]
  | cons a l ih =>
    unfold touL
    rw [ih, uX_touch]
    by_cases e : x ∈ l
    · simp [e]
    · by_cases e2 : x = a <;> simp [e, e2]
theorem touX_len (X : List FX) (h : Int) (on : Bool) : (touX X h on).length ≤ X.length + 1 := (up_len X h _).2.1
theorem touL_len (X : List FX) (l : List Int) : (touL X l).length ≤ X.length + l.length := by
  induction l generalizing X with
  | nil => simp [touL]
  | cons a l ih =>
    unfold touL
    have := ih (touX X a false)
    have := touX_len X a false
    simp only [List.length_cons]
    omega
def setX (G : Int → List Int) (rd : Int → Bool) (X : List FX) (h : Int) (on : Bool) : List FX :=
  if rd h = true ∧ on = true then touL (touX X h on) ((G h).filter (fun x => x != h)) else touX X h on
theorem setX_u (G : Int → List Int) (rd : Int → Bool) (X : List FX) (h : Int) (on : Bool) (x : Int) : uX (setX G rd X h on) x = setU G rd (uX X) h on x := by
  unfold setX setU
  by_cases e : rd h = true ∧ on = true
  · rw [if_pos e, uX_touL, uX_touch]
    by_cases ex : x = h
    · subst ex; simp
    · simp [ex, e]
  · rw [if_neg e, uX_touch]
    by_cases ex : x = h
    · rw [if_pos ex, if_pos ex]
    · rw [if_neg ex, if_neg ex, if_neg (fun q => e ⟨q.1, q.2.1⟩)]
def NoD (X : List FX) : Prop := ∀ x ∈ X, x.dirty = false
theorem NoD.get {X : List FX} (h : NoD X) (a : Int) : (getX X a).dirty = false := by
  cases e : fixX X a with
  | none => rw [(fix_none e).2]; rfl
  | some i => exact h _ (List.mem_of_getElem? (fix_some e).2.1)
theorem NoD.touch {X : List FX} (h : NoD X) (a : Int) (on : Bool) : NoD (touX X a on) := fun x hx => by
  rcases up_mem hx with e | e
  · rw [e]; exact h.get a
  · exact h x e
theorem NoD.touL {X : List FX} (h : NoD X) (l : List Int) : NoD (Go.Proofs.YtacdbnhnhdlmpaaGreatDoor.W.touL X l) := by
  induction l generalizing X with
  | nil => exact h
  | cons a l ih => exact ih (h.touch a false)
theorem NoD.setX {G : Int → List Int} {rd : Int → Bool} {X : List FX} (h : NoD X) (a : Int) (on : Bool) : NoD (Go.Proofs.YtacdbnhnhdlmpaaGreatDoor.W.setX G rd X a on) := by
  unfold Go.Proofs.YtacdbnhnhdlmpaaGreatDoor.W.setX
  split
  · exact (h.touch a on).touL _
  · exact h.touch a on
end Go.Proofs.YtacdbnhnhdlmpaaGreatDoor.W
end
section
namespace Go.Proofs.YtacdbnhnhdlmpaaGreatDoor.W
open Go.ChangeShapes Go.WideShapes Go.ChangeAt Go.RowKit Go.Joins Go.Deep
structure MkF where
  at_ : Nat
  on : Bool
def InMk (w : World) (A : Option Addr) (n : Nat) (f : Nat → MkF) : Prop := 0 < n → ∃ b off, A = some ⟨b, off, none⟩ ∧ b < w.heap.size ∧ ∀ j, j < n →
  w.cell? ⟨b, off + j * 2, none⟩ = some (.int .u8 ((f j).at_ : Int)) ∧ w.cell? ⟨b, off + j * 2 + 1, none⟩ = some (.bool (f j).on)
theorem InMk.below {w w' : World} {A : Option Addr} {n : Nat} {f : Nat → MkF} (h : InMk w A n f) (hb : Below w.heap.size w w') : InMk w' A n f := fun hn => by
  obtain ⟨b, off, e, hl, hc⟩ := h hn
  exact ⟨b, off, e, Nat.lt_of_lt_of_le hl hb.size, fun j hj => let ⟨q0, q1⟩ := hc j hj; ⟨cell_keep hb q0, cell_keep hb q1⟩⟩
section
variable {H : Type} {enc : TypeId × Value → H} {P : Program} {w : World}
theorem open_marks {r : Reach} {b0 : Nat} {t e : TypeId} {f0 f1 : Field} {v : Value} {d : DataW H} {ps : List MemPlace} (ht : P.underlying t = some (.slice e)) (he : P.underlying e = some (.struct #[f0, f1]))
    (hone : oneCellFields P #[f0, f1] = true) (hC : P.cellsOf e = 2) (e0 : P.underlying f0.type = some (.int .u8)) (e1 : P.underlying f1.type = some .bool)
    (hval : Value.okWide P w r b0 t v) (h : DataW.Trod enc P w 0 (fun _ => true) true t v d ps) :
    ∃ A n c, ∃ f : Nat → MkF, v = .slice A n c ∧ n ≤ 9223372036854775807 ∧ InMk w A n f ∧ ∀ j, (f j).at_ ≤ 255 := by
  obtain ⟨A, n, c, rfl⟩ := okWide_slice ht hval
  obtain ⟨fuel, hf⟩ := h
  rcases open_slice ht hf with ⟨hcs, _⟩ | ⟨a, len, cap, m, k, D, Pl, hcs, _, hl, hmx, hm, _, hx⟩
  · simp [Value.cells] at hcs
    obtain ⟨rfl, rfl, rfl⟩ := hcs
    exact ⟨none, 0, 0, fun _ => ⟨0, false⟩, rfl, Nat.zero_le _, fun h => absurd h (by omega), fun _ => by simp⟩
  · simp [Value.cells] at hcs
    obtain ⟨rfl, rfl, rfl⟩ := hcs
    simp only [if_true] at hm
    subst hm
    rw [hC] at hx
    have each : ∀ i, ∃ q : MkF, q.at_ ≤ 255 ∧
        (i < n → w.cell? (a.add (i * 2)) = some (.int .u8 (q.at_ : Int)) ∧ w.cell? (a.add (i * 2 + 1)) = some (.bool q.on)) := by
      intro i
      by_cases hi : i < n
      · obtain ⟨cs, h1, h2⟩ := hx i (by omega)
        obtain ⟨_, hlen, hcell⟩ := World.cells?_some h1
        obtain ⟨o0, k0⟩ := hone_of hone 0 f0 rfl
        obtain ⟨o1, k1⟩ := hone_of hone 1 f1 rfl
        obtain ⟨xs, k', _, _, _, hxl, hg⟩ := DataW.trod_struct he h2
        match xs, hxl, cs, hlen with
        | [y0, y1], _, [v0, v1], _ =>
          have g0 := hg 0 f0 rfl
          have g1 := hg 1 f1 rfl
          simp [o0, o1, k0, k1] at g0 g1
          obtain ⟨x0, z0, _, w0⟩ := DataW.trod_int e0 g0
          obtain ⟨x1, z1, _⟩ := DataW.trod_bool e1 g1
          simp at z0 z1
          subst z0 z1
          have b0 := byte_inF w0
          obtain ⟨x0, rfl⟩ := Int.eq_ofNat_of_zero_le b0.1
          refine ⟨⟨x0, x1⟩, by simp only []; omega, fun _ => ⟨?_, ?_⟩⟩
          · have := hcell 0 (by omega); simpa [Addr.add] using this
          · have := hcell 1 (by omega); rw [Go.Deep.add_add] at this; simpa using this
      · exact ⟨⟨0, false⟩, by simp, fun h => absurd h hi⟩
    obtain ⟨F, hF⟩ := Classical.axiomOfChoice each
    refine ⟨some a, n, _, F, rfl, by unfold maxLen at hmx; omega, fun hn => ?_, fun j => (hF j).1⟩
    have hc := fun i hi => (hF i).2 hi
    clear hF each
    obtain ⟨b, off, el⟩ := a
    have h0 := (hc 0 hn).1
    have hel : el = none := by simpa [Addr.add] using World.cell?_spot h0
    subst hel
    refine ⟨b, off, rfl, ?_, fun i hi => ?_⟩
    · have := World.block_lt_of_cell? _ _ h0
      rw [Go.WideShapes.add_plain] at this
      exact this
    · obtain ⟨q0, q1⟩ := hc i hi
      rw [Go.WideShapes.add_plain] at q0 q1
      exact ⟨q0, q1⟩
end
end Go.Proofs.YtacdbnhnhdlmpaaGreatDoor.W
end
section
namespace Go.Proofs.YtacdbnhnhdlmpaaGreatDoor.W
open Go.RowKit
section
variable {B R : Nat} {S : Tr} {sv fv : Value} {K : Nat → List Nat} {d : Nat → Nat} {w : World}
set_option maxRecDepth 100000 in
set_option maxHeartbeats 8000000 in
theorem scontent_any (h : TAt B R S sv fv w) (hL : Lk S K d) (hal : ∀ i n, S.at i = some n → n.attrs.length ≤ 1000) (hdt : ∀ x n, S.at x = some n → n.data.length ≤ 20000) (hsl : S.slots.length ≤ 10000) (i : Nat) (n : Nd) (hi : S.at i = some n) :
    Calls Tryz.prog 84 #[.pointer (some ⟨R, 0, none⟩), .int .i64 (S.hd i)] w fun e w' => e = .returned (.string ⟨(ctn S (wlk K (128 - d i) i)).toArray⟩) ∧ Below w.heap.size w w' := by
  have HW := Lib.hid (swalk_any (B := B) (R := R) (sv := sv) (fv := fv) hL (fun f i n hi => Nat.le_trans (wlk_len hL f i (by rw [hi]; rfl)) (by omega)) hal (128 - d i) i n hi rfl w h)
  have hlv : ∀ y ∈ wlk K (128 - d i) i, ∃ ny, S.at y = some ny := fun y hy => Option.isSome_iff_exists.1 (wlk_sub hL _ i y (by rw [hi]; rfl) hy).2
  have hll := wlk_len hL (128 - d i) i (by rw [hi]; rfl)
  obtain ⟨g, cap, rfl⟩ := slots_some h (by have := at_lt hi; omega)
  have HNo := Lib.hid (fun (k : Nat) (nk : Nd) (hk : S.at k = some nk) (wx : World) (hx : Below w.heap.size w wx) => snode_some (h.below hx) (S.hd k) (hd_ok hL hk).1 (hd_ix hL hk) (at_slot hk))
  have HAv := Lib.hid (fun (k : Nat) (nk : Nd) (hk : S.at k = some nk) => h.attrs k nk (at_slot hk))
  generalize wlk K (128 - d i) i = l at *
  have hcl := fun l => ctn_len hdt l
  clear h hi hal
  go_enter Tryz.func84, Tryz.ntmps84
  go_wp2_with fail
  refine HW.out.mono ?_
  rintro e w1 ⟨v, rfl, hv, hb1⟩
  obtain ⟨va, vc, rfl⟩ := own_shapeB hv
  have HV := Lib.hid hv
  have HB1 := Lib.hid hb1
  clear hv hb1 HW
  go_wp2_with fail
  go_loopw [5, 15] (fun ov iv wr => ∃ (t : Nat), t ≤ l.length ∧ iv = .int .i64 (t : Int) ∧ ov = .string ⟨(ctn S (l.take t)).toArray⟩ ∧ Below w1.heap.size w1 wr) (fun _ iv _ => l.length - (intOf iv).toNat)
  case atStart => exact ⟨0, by omega, rfl, rfl, Below.refl _ _⟩
  case round =>
    obtain ⟨t, ht, rfl, rfl, hb⟩ := hrel
    have HBr := Lib.hid hb
    clear hb
    by_cases htl : t < l.length
    · obtain ⟨k, hk⟩ : ∃ k, l[t]? = some k := ⟨_, List.getElem?_eq_getElem htl⟩
      obtain ⟨vg, rfl, _, hvc, ck⟩ := hdC_get (own_keepB HV.out HBr.out) hk
      obtain ⟨mk, hmk⟩ := hlv k (List.mem_of_getElem? hk)
      have hctn := ctn_snoc S (l.take t) k mk hmk
      rw [show l.take t ++ [k] = l.take (t + 1) by rw [List.take_add_one, hk]; rfl] at hctn
      have HCt := Lib.hid hctn
      have hdk := hdt k mk hmk
      have hl1 := hcl (l.take t)
      rw [List.length_take] at hl1
      have hl2 : (ctn S (l.take t)).length ≤ 20000 * 10000 := Nat.le_trans hl1 (Nat.mul_le_mul_left _ (by omega))
      have hs1 : ¬ 9223372036854775807 < (ctn S (l.take t)).length + mk.data.length := by omega
      have HM := Lib.hid (HNo.out k mk hmk _ (bthen HB1.out HBr.out))
      have hmv := HAv.out k mk hmk
      obtain ⟨mk, mm, mav, mal, mda, mp, mf, ml, mpv, mx⟩ := mk
      simp only at HCt hmv HM hs1
      obtain ⟨ma, mc, rfl, _⟩ := hmv
      generalize ctn S (l.take t) = ct at *
      clear hk hmk hctn hdk hl1 hl2
      go_wp2_with fail
      refine HM.out.mono ?_
      rintro e w2 ⟨rfl, hb2⟩
      simp only [ndC, strV]
      have k7 := Blk.new w2 [.int .i64 mk, .string ⟨mm.toArray⟩, .slice ma mal.length mc, .string ⟨mda.toArray⟩, .int .i64 mp, .int .i64 mf, .int .i64 ml, .int .i64 mpv, .int .i64 mx] 135
      have c0 := k7.cell 0
      have c3 := k7.cell 3
      simp only [List.getElem?_cons_zero, List.getElem?_cons_succ] at c0 c3
      have HB7 := Lib.hid (bthen HBr.out (hb2.alloc hb2.size (.cells #[.int .i64 mk, .string ⟨mm.toArray⟩, .slice ma mal.length mc, .string ⟨mda.toArray⟩, .int .i64 mp, .int .i64 mf, .int .i64 ml, .int .i64 mpv, .int .i64 mx] 135)))
      clear hb2 HM k7
      by_cases h3 : mk = 3
      · have e3 : ((mk : Int) == 3) = true := by simpa using h3
        have HR := Lib.hid (show ctn S (l.take (t + 1)) = ct ++ mda from by rw [HCt.out, if_pos h3])
        clear h3
        go_wp2_with fail
        go_roundw
        case rel =>
          refine ⟨t + 1, by omega, by go_num, ?_, HB7.out⟩
          rw [HR.out, ← bytes_app]
        case measure => simp [intOf]; omega
      · have e3 : ((mk : Int) == 3) = false := by simpa using h3
        have HR := Lib.hid (show ctn S (l.take (t + 1)) = ct from by rw [HCt.out, if_neg h3, List.append_nil])
        clear h3
        go_wp2_with fail
        go_roundw
        case rel => exact ⟨t + 1, by omega, by go_num, by rw [HR.out], HB7.out⟩
        case measure => simp [intOf]; omega
    · obtain rfl : t = l.length := by omega
      rw [List.take_length]
      go_wp2_with fail
      go_ret
      exact ⟨rfl, bthen HB1.out HBr.out⟩
def valN (S : Tr) (K : Nat → List Nat) (d : Nat → Nat) (i : Nat) (n : Nd) : List UInt8 :=
  if kindN n = 2 then ctn S (wlk K (128 - d i) i) else if attL n.attrs sValue = none ∧ (kindN n = 3 ∨ kindN n = 4) then [111, 110] else (attL n.attrs sValue).getD []
set_option maxRecDepth 100000 in
set_option maxHeartbeats 8000000 in
theorem svalue_any (h : TAt B R S sv fv w) (hL : Lk S K d) (hal : ∀ i n, S.at i = some n → n.attrs.length ≤ 1000) (hdt : ∀ x n, S.at x = some n → n.data.length ≤ 20000) (hsl : S.slots.length ≤ 10000) (i : Nat) (n : Nd) (hi : S.at i = some n) (hnm : n.kind ≠ 2 → n.name = []) :
    Calls Tryz.prog 38 #[.pointer (some ⟨R, 0, none⟩), .int .i64 (S.hd i)] w fun e w' => e = .returned (.string ⟨(valN S K d i n).toArray⟩) ∧ Below w.heap.size w w' := by
  have HK := Lib.hid (skind_any h hL i n hi (hal i n hi) hnm)
  have HC := Lib.hid (fun wx (hb : Below w.heap.size w wx) => scontent_any (h.below hb) hL hal hdt hsl i n hi)
  have HA := Lib.hid (fun wx (hb : Below w.heap.size w wx) => sattr_any (h.below hb) hL i n hi (hal i n hi) sValue)
  unfold valN
  generalize ctn S (wlk K (128 - d i) i) = ct at *
  generalize kindN n = k at *
  generalize attL n.attrs sValue = t at *
  obtain ⟨vv, hvv⟩ : ∃ vv, (if k = 2 then ct else if t = none ∧ (k = 3 ∨ k = 4) then [111, 110] else t.getD []) = vv := ⟨_, rfl⟩
  rw [hvv]
  have HVV := Lib.hid hvv
  clear h hi hal hdt hsl hvv
  go_enter Tryz.func38, Tryz.ntmps38
  go_wp2_with fail
  refine HK.out.mono ?_
  rintro e w1 ⟨rfl, hb1⟩
  by_cases h2 : k = 2
  · have HR := Lib.hid (show vv = ct from by rw [← HVV.out, if_pos h2])
    subst h2
    clear HVV
    go_wp2_with fail
    refine (HC.out _ hb1).mono ?_
    rintro e w2 ⟨rfl, hb2⟩
    have HB := Lib.hid (bthen hb1 hb2)
    clear hb2
    go_wp2_with fail
    go_ret
    rw [HR.out]
    exact ⟨rfl, HB.out⟩
  · have e2 : ((k : Int) == 2) = false := by simp; omega
    have hv2 : (if t = none ∧ (k = 3 ∨ k = 4) then [111, 110] else t.getD []) = vv := by have := HVV.out; rwa [if_neg h2] at this
    have HV2 := Lib.hid hv2
    clear h2 HVV hv2
    go_wp2_with fail
    refine (HA.out _ hb1).mono ?_
    rintro e w2 ⟨rfl, hb2⟩
    have HB := Lib.hid (bthen hb1 hb2)
    clear hb2 HA HC HK
    cases t with
    | some x =>
      have HR := Lib.hid (show vv = x from by rw [← HV2.out, if_neg (by simp)]; rfl)
      simp only [Option.getD_some, Option.isSome_some] at *
      clear HV2
      go_wp2_with fail
      go_ret
      rw [HR.out]
      exact ⟨rfl, HB.out⟩
    | none =>
      simp only [Option.getD_none, Option.isSome_none] at *
      by_cases h3 : k = 3
      · have HR := Lib.hid (show vv = [111, 110] from by rw [← HV2.out, if_pos ⟨by trivial, .inl h3⟩])
        subst h3
        clear HV2
        go_wp2_with fail
        go_ret
        rw [HR.out]
        exact ⟨rfl, HB.out⟩
      · have e3 : ((k : Int) == 3) = false := by simp; omega
        by_cases h4 : k = 4
        · have HR := Lib.hid (show vv = [111, 110] from by rw [← HV2.out, if_pos ⟨by trivial, .inr h4⟩])
          subst h4
          clear HV2
          go_wp2_with fail
          go_ret
          rw [HR.out]
          exact ⟨rfl, HB.out⟩
        · have e4 : ((k : Int) == 4) = false := by simp; omega
          have HR := Lib.hid (show vv = [] from by rw [← HV2.out, if_neg (fun q => by rcases q.2 with q | q; exact h3 q; exact h4 q)])
          clear h3 h4 HV2
          go_wp2_with fail
          go_ret
          rw [HR.out]
          exact ⟨rfl, HB.out⟩
end
end Go.Proofs.YtacdbnhnhdlmpaaGreatDoor.W
end
