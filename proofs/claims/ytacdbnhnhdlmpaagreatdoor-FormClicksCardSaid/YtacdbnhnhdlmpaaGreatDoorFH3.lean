/- Texts joined: DcP Sgr. -/
import Derived.Test.YtacdbnhnhdlmpaaGreatDoorFH2
import Derived.LoopTactic
import Derived.RegionTactic
set_option maxRecDepth 100000
set_option maxHeartbeats 40000000
set_option linter.unusedVariables false
set_option linter.unusedSimpArgs false
section
namespace Go.Proofs.YtacdbnhnhdlmpaaGreatDoor.W
open Go.RowKit
theorem ix_eq {S : Tr} {h : Int} {i : Nat} (hl : S.slots.length ≤ 1000000) (k : S.ix h = some i) : h = S.hd i := by
  obtain ⟨h1, h2, _⟩ := ix_some k
  unfold Tr.hd
  rw [hdl_val _ _ _ (by omega)]
  unfold idx at h1
  split at h1
  · omega
  · rename_i hc
    have h3 : (h - bnd S.b) % bnd S.s = 0 := Classical.byContradiction fun q => hc (.inr (.inl q))
    have := Int.mul_ediv_add_emod (h - bnd S.b) (bnd S.s)
    rw [h1, h3] at this
    omega
def nmV (n : Nd) : List UInt8 := (attV n sName).getD []
def isR (S : Tr) (d : Nat → Nat) (ow : Int) (nm : List UInt8) (x : Nat) : Bool := match S.at x with
  | some n => kindN n == 4 && hO S (ownI S d x) == ow && nmV n == nm
  | none => false
def grp (S : Tr) (K : Nat → List Nat) (d : Nat → Nat) (i : Nat) (n : Nd) : List Nat :=
  if nmV n = [] then [i] else (ord K d).filter (isR S d (hO S (ownI S d i)) (nmV n))
section
variable {S : Tr} {K : Nat → List Nat} {d : Nat → Nat}
theorem DcOk.pr0 (D : DcOk S K d) : pr S 0 = none := by
  obtain ⟨n, h, _⟩ := D.ok.doc
  have := (D.lk.top 0 n h D.ok.nodoc).1
  unfold pr
  rw [h, Option.bind_some, this]
  exact ix_zero S
theorem DcOk.top (D : DcOk S K d) : ∀ (m x : Nat), d x = m → (S.at x).isSome = true → topF S (d x) x = 0 := by
  intro m
  induction m using Nat.strongRecOn with
  | ind m ih =>
    intro x hm hx
    by_cases h0 : x = 0
    · subst h0
      rw [D.d0]
      simp only [topF, D.pr0]
    · obtain ⟨q, hq⟩ := D.att x hx h0
      have hd := D.lk.dep q x hq
      rw [hd]
      simp only [topF, pr_kid D.lk hq]
      exact ih (d q) (by omega) q rfl (D.lk.kin q x hq).1
theorem grp_live (D : DcOk S K d) {i : Nat} {n : Nd} (hi : S.at i = some n) : ∀ x ∈ grp S K d i n, (S.at x).isSome = true := by
  intro x hx
  unfold grp at hx
  split at hx
  · rw [List.mem_singleton] at hx; rw [hx, hi]; rfl
  · exact D.ord_live (List.mem_filter.1 hx).1
theorem grp_len (D : DcOk S K d) (i : Nat) (n : Nd) : (grp S K d i n).length ≤ 100 := by
  unfold grp
  split
  · simp
  · exact Nat.le_trans (List.length_filter_le _ _) D.ord_len
def ndH (S : Tr) (h : Int) : Option (Nat × Nd) := (S.ix h).bind fun i => (S.at i).map fun n => (i, n)
def gH (S : Tr) (K : Nat → List Nat) (d : Nat → Nat) (h : Int) : List Int := match ndH S h with
  | some (i, n) => (grp S K d i n).map S.hd
  | none => []
def rdH (S : Tr) (h : Int) : Bool := match ndH S h with
  | some (_, n) => kindN n == 4
  | none => false
def atH (S : Tr) (h : Int) : Bool := match ndH S h with
  | some (_, n) => (attV n sChecked).isSome
  | none => false
theorem ndH_hd (D : DcOk S K d) {i : Nat} {n : Nd} (hi : S.at i = some n) : ndH S (S.hd i) = some (i, n) := by
  unfold ndH
  rw [hd_ix D.lk hi, Option.bind_some, hi]; rfl
theorem ndH_some (D : DcOk S K d) {h : Int} {i : Nat} {n : Nd} (e : ndH S h = some (i, n)) : S.at i = some n ∧ h = S.hd i := by
  unfold ndH at e
  obtain ⟨k, h1, h2⟩ := Option.bind_eq_some_iff.1 e
  obtain ⟨m, h3, h4⟩ := Option.map_eq_some_iff.1 h2
  cases h4
  exact ⟨h3, ix_eq D.lk.few h1⟩
theorem gH_hd (D : DcOk S K d) {i : Nat} {n : Nd} (hi : S.at i = some n) : gH S K d (S.hd i) = (grp S K d i n).map S.hd := by unfold gH; rw [ndH_hd D hi]
theorem rdH_hd (D : DcOk S K d) {i : Nat} {n : Nd} (hi : S.at i = some n) : rdH S (S.hd i) = (kindN n == 4) := by unfold rdH; rw [ndH_hd D hi]
theorem atH_hd (D : DcOk S K d) {i : Nat} {n : Nd} (hi : S.at i = some n) : atH S (S.hd i) = (attV n sChecked).isSome := by unfold atH; rw [ndH_hd D hi]
theorem rdH_ex (D : DcOk S K d) {h : Int} (e : rdH S h = true) : ∃ i n, S.at i = some n ∧ h = S.hd i ∧ kindN n = 4 := by
  unfold rdH at e
  split at e
  · rename_i i n hq
    obtain ⟨h1, h2⟩ := ndH_some D hq
    exact ⟨i, n, h1, h2, by simpa using e⟩
  · cases e
theorem isR_self {i : Nat} {n : Nd} (hi : S.at i = some n) (hk : kindN n = 4) : isR S d (hO S (ownI S d i)) (nmV n) i = true := by
  unfold isR
  rw [hi]
  simp [hk]
theorem grp_self (D : DcOk S K d) {i : Nat} {n : Nd} (hi : S.at i = some n) (hk : kindN n = 4) : i ∈ grp S K d i n := by
  unfold grp
  split
  · simp
  · exact List.mem_filter.2 ⟨D.mem_ord (by rw [hi]; rfl), isR_self hi hk⟩
theorem grp_mem (D : DcOk S K d) {i x : Nat} {n : Nd} (hi : S.at i = some n) (hk : kindN n = 4) (hx : x ∈ grp S K d i n) : ∃ nx, S.at x = some nx ∧ kindN nx = 4 ∧ grp S K d x nx = grp S K d i n := by
  by_cases hn : nmV n = []
  · have e : grp S K d i n = [i] := by unfold grp; rw [if_pos hn]
    rw [e, List.mem_singleton] at hx
    subst hx
    exact ⟨n, hi, hk, rfl⟩
  · have e : grp S K d i n = (ord K d).filter (isR S d (hO S (ownI S d i)) (nmV n)) := by unfold grp; rw [if_neg hn]
    rw [e] at hx
    obtain ⟨h1, h2⟩ := List.mem_filter.1 hx
    unfold isR at h2
    split at h2
    · rename_i nx hnx
      simp only [Bool.and_eq_true, beq_iff_eq] at h2
      refine ⟨nx, hnx, h2.1.1, ?_⟩
      unfold grp
      rw [if_neg hn, if_neg (by rw [h2.2]; exact hn), h2.2, h2.1.2]
    · cases h2
theorem map_nd (D : DcOk S K d) {l : List Nat} (h : l.Nodup) (hl : ∀ x ∈ l, (S.at x).isSome = true) : (l.map S.hd).Nodup := by
  rw [List.nodup_iff_pairwise_ne, List.pairwise_map]
  exact List.Pairwise.imp_of_mem (fun ha hb hne e => hne (D.hd_inj (hl _ ha) (hl _ hb) e)) h
theorem grp_nd (D : DcOk S K d) (i : Nat) (n : Nd) : (grp S K d i n).Nodup := by
  unfold grp
  split
  · simp
  · exact D.ord_nd.filter _
theorem gr_ok (D : DcOk S K d) : GrOk (gH S K d) (rdH S) := by
  refine ⟨fun h hr => ?_, fun h => ?_, fun a b hr hb => ?_, fun a b hr hb => ?_⟩
  · obtain ⟨i, n, hi, rfl, hk⟩ := rdH_ex D hr
    rw [gH_hd D hi]
    exact List.mem_map_of_mem (grp_self D hi hk)
  · cases e : ndH S h with
    | none => unfold gH; rw [e]; exact List.nodup_nil
    | some p =>
      obtain ⟨i, n⟩ := p
      obtain ⟨hi, rfl⟩ := ndH_some D e
      rw [gH_hd D hi]
      exact map_nd D (grp_nd D i n) (grp_live D hi)
  · obtain ⟨i, n, hi, rfl, hk⟩ := rdH_ex D hr
    rw [gH_hd D hi] at hb ⊢
    obtain ⟨x, hx, rfl⟩ := List.mem_map.1 hb
    obtain ⟨nx, h1, h2, h3⟩ := grp_mem D hi hk hx
    rw [gH_hd D h1, h3]
  · obtain ⟨i, n, hi, rfl, hk⟩ := rdH_ex D hr
    rw [gH_hd D hi] at hb
    obtain ⟨x, hx, rfl⟩ := List.mem_map.1 hb
    obtain ⟨nx, h1, h2, h3⟩ := grp_mem D hi hk hx
    rw [rdH_hd D h1, h2]; rfl
end
def uX (X : List FX) (h : Int) : Option Bool := if (getX X h).touched then some (getX X h).checked else none
def toX (x : FX) (on : Bool) : FX := { x with touched := true, checked := on }
def touX (X : List FX) (h : Int) (on : Bool) : List FX := upX X h (toX (getX X h) on)
theorem uX_touch (X : List FX) (h : Int) (on : Bool) (x : Int) : uX (touX X h on) x = if x = h then some on else uX X x := by
  have hn : (toX (getX X h) on).node = h := get_node X h
  unfold uX touX
  by_cases e : x = h
  · subst e
    rw [up_get X hn, if_pos rfl]; rfl
  · rw [get_other X hn e, if_neg e]
def touL (X : List FX) : List Int → List FX
  | [] => X
  | a :: l => touL (touX X a false) l
theorem uX_touL (X : List FX) (l : List Int) (x : Int) : uX (touL X l) x = if x ∈ l then some false else uX X x := by
  induction l generalizing X with
  | nil => simp [touL]
  | cons a l ih =>
    unfold touL
    rw [ih, uX_touch]
    by_cases e : x ∈ l
    · simp [e]
    · by_cases e2 : x = a <;> simp [e, e2]
theorem touX_len (X : List FX) (h : Int) (on : Bool) : (touX X h on).length ≤ X.length + 1 := (up_len X h _).2.1
theorem touL_len (X : List FX) (l : List Int) : (touL X l).length ≤ X.length + l.length := by
  induction l generalizing X with
  | nil => simp [touL]
  | cons a l ih =>
    unfold touL
    have := ih (touX X a false)
    have := touX_len X a false
    simp only [List.length_cons]
    omega
def setX (G : Int → List Int) (rd : Int → Bool) (X : List FX) (h : Int) (on : Bool) : List FX :=
  if rd h = true ∧ on = true then touL (touX X h on) ((G h).filter (fun x => x != h)) else touX X h on
theorem setX_u (G : Int → List Int) (rd : Int → Bool) (X : List FX) (h : Int) (on : Bool) (x : Int) : uX (setX G rd X h on) x = setU G rd (uX X) h on x := by
  unfold setX setU
  by_cases e : rd h = true ∧ on = true
  · rw [if_pos e, uX_touL, uX_touch]
    by_cases ex : x = h
    · subst ex; simp
    · simp [ex, e]
  · rw [if_neg e, uX_touch]
    by_cases ex : x = h
    · rw [if_pos ex, if_pos ex]
    · rw [if_neg ex, if_neg ex, if_neg (fun q => e ⟨q.1, q.2.1⟩)]
def NoD (X : List FX) : Prop := ∀ x ∈ X, x.dirty = false
theorem NoD.get {X : List FX} (h : NoD X) (a : Int) : (getX X a).dirty = false := by
  cases e : fixX X a with
  | none => rw [(fix_none e).2]; rfl
  | some i => exact h _ (List.mem_of_getElem? (fix_some e).2.1)
theorem NoD.touch {X : List FX} (h : NoD X) (a : Int) (on : Bool) : NoD (touX X a on) := fun x hx => by
  rcases up_mem hx with e | e
  · rw [e]; exact h.get a
  · exact h x e
theorem NoD.touL {X : List FX} (h : NoD X) (l : List Int) : NoD (Go.Proofs.YtacdbnhnhdlmpaaGreatDoor.W.touL X l) := by
  induction l generalizing X with
  | nil => exact h
  | cons a l ih => exact ih (h.touch a false)
theorem NoD.setX {G : Int → List Int} {rd : Int → Bool} {X : List FX} (h : NoD X) (a : Int) (on : Bool) : NoD (Go.Proofs.YtacdbnhnhdlmpaaGreatDoor.W.setX G rd X a on) := by
  unfold Go.Proofs.YtacdbnhnhdlmpaaGreatDoor.W.setX
  split
  · exact (h.touch a on).touL _
  · exact h.touch a on
end Go.Proofs.YtacdbnhnhdlmpaaGreatDoor.W
end
section
namespace Go.Proofs.YtacdbnhnhdlmpaaGreatDoor.W
open Go.RowKit
def tyN (n : Nd) : List UInt8 := if n.kind = 2 ∧ n.name = sInput then (attV n sType).getD [] else []
theorem tyN_radio {n : Nd} (hnm : n.kind ≠ 2 → n.name = []) : (tyN n == sRadio) = (kindN n == 4) := by
  unfold tyN kindN kindF
  by_cases h1 : n.name = sInput
  · have hk : n.kind = 2 := Classical.byContradiction fun e => by
      have := hnm e
      rw [h1] at this; cases this
    rw [if_pos ⟨hk, h1⟩, if_pos h1]
    generalize (attV n sType).getD [] = t
    unfold kindI
    by_cases e : t = sRadio
    · subst e; rfl
    · have e1 : (t == sRadio) = false := by simpa using e
      rw [e1, if_neg e]
      repeat' split
      all_goals first | rfl | contradiction
  · rw [if_neg (fun e => h1 e.2), if_neg h1]
    have e0 : (([] : List UInt8) == sRadio) = false := rfl
    rw [e0]
    repeat' split
    all_goals rfl
section
variable {B R : Nat} {S : Tr} {sv fv : Value} {w : World} {K : Nat → List Nat} {d : Nat → Nat}
set_option maxRecDepth 100000 in
set_option maxHeartbeats 4000000 in
theorem skindL_any (h : TAt B R S sv fv w) (hL : Lk S K d) (i : Nat) (n : Nd) (hi : S.at i = some n) (hl : n.attrs.length ≤ 1000) :
    Calls Tryz.prog 78 #[.pointer (some ⟨R, 0, none⟩), .int .i64 (S.hd i)] w fun e w' => e = .returned (.string ⟨(tyN n).toArray⟩) ∧ Below w.heap.size w w' := by
  have HA := Lib.hid (fun wx (hb : Below w.heap.size w wx) => sattr_any (h.below hb) hL i n hi hl sType)
  obtain ⟨g, cap, rfl⟩ := slots_some h (by have := at_lt hi; omega)
  have HN := Lib.hid (snode_some h (S.hd i) (hd_ok hL hi).1 (hd_ix hL hi) (at_slot hi))
  have hAt := h.attrs i n (at_slot hi)
  unfold tyN attV
  obtain ⟨nk, nm, nav, nal, nda, np, nf, nl, npv, nx⟩ := n
  simp only at HN HA hAt hl ⊢
  obtain ⟨va, vc, rfl, _⟩ := hAt
  generalize attL nal sType = t at *
  obtain ⟨kk, hkk⟩ : ∃ kk, (if nk = 2 ∧ nm = sInput then (if nk = 2 then t else none).getD [] else []) = kk := ⟨_, rfl⟩
  rw [hkk]
  have HKK := Lib.hid hkk
  clear h hi hkk
  go_enter Tryz.func78, Tryz.ntmps78
  go_wp2_with fail
  refine HN.out.mono ?_
  rintro e w1 ⟨rfl, hb1⟩
  simp only [ndC, strV]
  have hb2 := hb1.alloc hb1.size (.cells #[.int .i64 nk, .string ⟨nm.toArray⟩, .slice va nal.length vc, .string ⟨nda.toArray⟩, .int .i64 np, .int .i64 nf, .int .i64 nl, .int .i64 npv, .int .i64 nx] 135)
  have kn := Blk.new w1 [.int .i64 nk, .string ⟨nm.toArray⟩, .slice va nal.length vc, .string ⟨nda.toArray⟩, .int .i64 np, .int .i64 nf, .int .i64 nl, .int .i64 npv, .int .i64 nx] 135
  have c0 := kn.cell 0
  have c1 := kn.cell 1
  simp only [List.getElem?_cons_zero, List.getElem?_cons_succ] at c0 c1
  have HB2 := Lib.hid hb2
  clear hb1 hb2 HN kn
  by_cases hk : nk = 2
  · subst hk
    have e0 : ((2 : Int) != 2) = false := rfl
    by_cases h1 : nm = sInput
    · have e1 : (nm == [105, 110, 112, 117, 116]) = true := beqT h1
      have e2 : (nm != [105, 110, 112, 117, 116]) = false := by rw [bne, e1]; rfl
      have HR := Lib.hid (show kk = t.getD [] from by rw [← HKK.out, if_pos ⟨rfl, h1⟩, if_pos rfl])
      clear h1 HKK
      go_wp2_with fail
      refine (HA.out _ HB2.out).mono ?_
      rintro e w2 ⟨rfl, hb3⟩
      have HB := Lib.hid (bthen HB2.out hb3)
      clear hb3
      go_wp2_with fail
      go_ret
      rw [HR.out]
      exact ⟨rfl, HB.out⟩
    · have e1 : (nm == [105, 110, 112, 117, 116]) = false := beqF h1
      have e2 : (nm != [105, 110, 112, 117, 116]) = true := by rw [bne, e1]; rfl
      have HR := Lib.hid (show kk = [] from by rw [← HKK.out, if_neg (fun e => h1 e.2)])
      clear h1 HKK
      go_wp2_with fail
      go_ret
      rw [HR.out]
      exact ⟨rfl, HB2.out⟩
  · have e0 : ((nk : Int) != 2) = true := by simpa using hk
    have HR := Lib.hid (show kk = [] from by rw [← HKK.out, if_neg (fun e => hk e.1)])
    clear hk HKK
    go_wp2_with fail
    go_ret
    rw [HR.out]
    exact ⟨rfl, HB2.out⟩
set_option maxRecDepth 100000 in
set_option maxHeartbeats 8000000 in
theorem sgroup_any (D : DcOk S K d) (h : TAt B R S sv fv w) (i : Nat) (n : Nd) (hi : S.at i = some n) :
    Calls Tryz.prog 36 #[.pointer (some ⟨R, 0, none⟩), .int .i64 (S.hd i)] w fun e w' => ∃ v, e = .returned v ∧ w'.ownsRow w.heap.size 3 1 v (grp S K d i n).length (hdC S (grp S K d i n)) ∧ Below w.heap.size w w' := by
  have HSa := Lib.hid (fun (x : Nat) (nx : Nd) (hx : S.at x = some nx) (wx : World) (hb : Below w.heap.size w wx) => sattr_any (h.below hb) D.lk x nx hx (D.al x nx hx) sName)
  have HKi := Lib.hid (fun (x : Nat) (nx : Nd) (hx : S.at x = some nx) (wx : World) (hb : Below w.heap.size w wx) => skindL_any (h.below hb) D.lk x nx hx (D.al x nx hx))
  have HOw := Lib.hid (fun (x : Nat) (nx : Nd) (hx : S.at x = some nx) (wx : World) (hb : Below w.heap.size w wx) => sowner_any (h.below hb) D.lk D.al D.nm x nx hx)
  have HOr := Lib.hid (fun (wx : World) (hb : Below w.heap.size w wx) => order_any D (h.below hb))
  have HS1 := Lib.hid (HSa.out i n hi w (Below.refl _ _))
  rw [D.attL hi] at HS1
  have HOi := Lib.hid (HOw.out i n hi)
  have hlv : ∀ x ∈ ord K d, ∃ nx, S.at x = some nx := fun x hx => Option.isSome_iff_exists.1 (D.ord_live hx)
  have hol := D.ord_len
  have HIs := Lib.hid (fun (x : Nat) (nx : Nd) (hx : S.at x = some nx) (ow : Int) (nm : List UInt8) => (show isR S d ow nm x = (kindN nx == 4 && hO S (ownI S d x) == ow && nmV nx == nm) from by unfold isR; rw [hx]))
  have HTy := Lib.hid (fun (x : Nat) (nx : Nd) (hx : S.at x = some nx) => (show (tyN nx == sRadio) = (kindN nx == 4) ∧ (attL nx.attrs sName).getD [] = nmV nx from ⟨tyN_radio (D.nm x nx hx), by rw [D.attL hx]; rfl⟩))
  unfold grp
  have hnm0 : nmV n = (attV n sName).getD [] := rfl
  rw [← hnm0] at HS1
  generalize nmV n = nm at *
  generalize hO S (ownI S d i) = ow at *
  have hW := (Below.refl w.heap.size w)
  clear hnm0 h hi hW
  by_cases hn : nm = []
  · subst hn
    rw [if_pos rfl]
    clear HSa HKi HOw HOr HIs HTy hlv
    go_enter Tryz.func36, Tryz.ntmps36
    go_wp2_with fail
    refine HS1.out.mono ?_
    rintro e w1 ⟨rfl, hb1⟩
    have HB1 := Lib.hid hb1
    clear hb1
    go_wp2_with fail
    go_ret
    exact ⟨_, rfl, own_base' (own_at (n := 1) (size := 1) (Blk.new w1 [.int .i64 (S.hd i)] 3) rfl (by omega)) (fun k hk => by cases hk; exact HB1.out.size), HB1.out.alloc HB1.out.size _⟩
  · rw [if_neg hn]
    have e0 : (nm == []) = false := beqF hn
    generalize ord K d = ol at *
    clear hn
    go_enter Tryz.func36, Tryz.ntmps36
    go_wp2_with fail
    refine HS1.out.mono ?_
    rintro e w1 ⟨rfl, hb1⟩
    have HR := Lib.hid (HOr.out _ hb1)
    have HB1 := Lib.hid hb1
    clear hb1 HOr HS1
    go_wp2_with fail
    refine HR.out.mono ?_
    rintro e w2 ⟨v, rfl, hv, hb2⟩
    obtain ⟨va, vc, rfl⟩ := own_shapeB hv
    have HV := Lib.hid hv
    have HB2 := Lib.hid (bthen HB1.out hb2)
    clear hv hb2 HR
    go_wp2_with fail
    go_loopw [7, 26] (fun ov iv wr => ∃ (t : Nat), t ≤ ol.length ∧ iv = .int .i64 (t : Int) ∧ wr.ownsRow w2.heap.size 3 1 ov ((ol.take t).filter (isR S d ow nm)).length (hdC S ((ol.take t).filter (isR S d ow nm))) ∧ Below w2.heap.size w2 wr) (fun _ iv _ => ol.length - (intOf iv).toNat)
    case atStart => exact ⟨0, by omega, rfl, World.ownsRow_nil _ _ _ _, Below.refl _ _⟩
    case round =>
      obtain ⟨t, ht, rfl, hown, hb⟩ := hrel
      obtain ⟨oa, oc, rfl⟩ := own_shapeB hown
      have HO := Lib.hid hown
      have HBr := Lib.hid hb
      clear hown hb
      by_cases htl : t < ol.length
      · obtain ⟨k, hk⟩ : ∃ k, ol[t]? = some k := ⟨_, List.getElem?_eq_getElem htl⟩
        obtain ⟨nk, hnk⟩ := hlv k (List.mem_of_getElem? hk)
        obtain ⟨vg, rfl, _, hvc, ck⟩ := hdC_get (own_keepB HV.out HBr.out) hk
        have hbw := bthen HB2.out HBr.out
        have HA1 := Lib.hid (HSa.out k nk hnk _ hbw)
        obtain ⟨hty, hnme⟩ := HTy.out k nk hnk
        rw [hnme] at HA1
        have HK1 := Lib.hid (fun wx (hb : Below wr.heap.size wr wx) => HKi.out k nk hnk wx (bthen hbw hb))
        have HO1 := Lib.hid (fun wx (hb : Below wr.heap.size wr wx) => HOw.out k nk hnk wx (bthen hbw hb))
        have HO2 := Lib.hid (fun wx (hb : Below wr.heap.size wr wx) => HOi.out wx (bthen hbw hb))
        have hisr := HIs.out k nk hnk ow nm
        have hfs := filter_snoc (isR S d ow nm) (ol.take t) k
        rw [show ol.take t ++ [k] = ol.take (t + 1) by rw [List.take_add_one, hk]; rfl, hisr] at hfs
        have hfl : ((ol.take t).filter (isR S d ow nm)).length ≤ 100 := by
          have := List.length_filter_le (isR S d ow nm) (ol.take t)
          rw [List.length_take] at this
          omega
        have HFs := Lib.hid hfs
        generalize (ol.take t).filter (isR S d ow nm) = fl at *
        generalize nmV nk = nmk at *
        generalize hO S (ownI S d k) = owk at *
        generalize tyN nk = ty at *
        generalize kindN nk = kd at *
        clear hbw hk hnk hisr hnme hfs
        go_wp2_with fail
        refine HA1.out.mono ?_
        rintro e w4 ⟨rfl, hb4⟩
        have ck4 := cell_keep hb4 ck
        have HK4 := Lib.hid (HK1.out _ hb4)
        have Hb4 := Lib.hid hb4
        clear hb4 HA1 HK1 ck
        go_wp2_with fail
        refine HK4.out.mono ?_
        rintro e w5 ⟨rfl, hb5⟩
        have hbr5 := bthen Hb4.out hb5
        have ck5 := cell_keep hb5 ck4
        have HBr5 := Lib.hid hbr5
        have HO5a := Lib.hid (HO1.out _ hbr5)
        clear hb5 HK4 Hb4 ck4 hbr5
        by_cases h4 : kd = 4
        · have e4 : (ty == [114, 97, 100, 105, 111]) = true := hty.trans (by simp [h4])
          by_cases h5 : nmk = nm
          · have e5 : (nmk == nm) = true := beqT h5
            go_wp2_with fail
            refine HO5a.out.mono ?_
            rintro e w6 ⟨rfl, hb6⟩
            have hbr6 := bthen HBr5.out hb6
            have HO6 := Lib.hid (HO2.out _ hbr6)
            have ck6 := cell_keep hb6 ck5
            have HBr6 := Lib.hid hbr6
            clear hb6 hbr6 ck5
            go_wp2_with fail
            refine HO6.out.mono ?_
            rintro e w7 ⟨rfl, hb7⟩
            have hbr7 := bthen HBr6.out hb7
            have ck7 := cell_keep hb7 ck6
            have HO7 := Lib.hid (own_keepB HO.out hbr7)
            have HBr7 := Lib.hid (bthen HBr.out hbr7)
            clear hb7 hbr7 ck6 HO6 HO5a HO1 HO2
            by_cases h6 : owk = ow
            · have e6 : (owk == ow) = true := by simpa using h6
              have HS := Lib.hid (show (ol.take (t + 1)).filter (isR S d ow nm) = fl ++ [k] from by rw [HFs.out, h4, e6, e5]; rfl)
              clear h4 h5 h6 HFs hty
              have HWx := Lib.hid (own_at (n := 1) (size := 1) (Blk.new w7 [.int .i64 (S.hd k)] 3) rfl (by omega))
              have HO8 := Lib.hid (own_keepB HO7.out ((Below.refl w7.heap.size w7).alloc (Nat.le_refl _) (.cells #[.int .i64 (S.hd k)] 3)))
              have hB8 := bthen HBr7.out ((Below.refl w7.heap.size w7).alloc (Nat.le_refl _) (.cells #[.int .i64 (S.hd k)] 3))
              have HB8 := Lib.hid hB8
              have hsz := hB8.size
              have hlt4 := fun g (hg : (Value.slice oa fl.length oc).ownBlock = some g) => (HO8.out.lt g hg).1
              clear hB8
              go_wp2_with (at_builtin; refine wpList_append_B etI HO8.out hsz HWx.out (by intro u hu; simp at hu; subst hu; rfl) (by omega) (by omega) rfl _ _ rfl rfl rfl ?_)
              intro v' w9 ho9 hg9 _
              have HO9 := Lib.hid ho9
              have HB9 := Lib.hid (HB8.out.grown hg9 hsz (fun k hk => hlt4 k hk))
              clear ho9 hg9 hlt4
              go_wp2_with fail
              go_roundw
              case rel =>
                refine ⟨t + 1, by omega, by go_num, ?_, HB9.out⟩
                rw [HS.out, List.length_append, ← hdC_app]
                exact HO9.out
              case measure => simp [intOf]; omega
            · have e6 : (owk == ow) = false := by simpa using h6
              have HS := Lib.hid (show (ol.take (t + 1)).filter (isR S d ow nm) = fl from by rw [HFs.out, e6]; simp)
              clear h4 h5 h6 HFs hty
              go_wp2_with fail
              go_roundw
              case rel =>
                refine ⟨t + 1, by omega, by go_num, ?_, HBr7.out⟩
                rw [HS.out]
                exact HO7.out
              case measure => simp [intOf]; omega
          · have e5 : (nmk == nm) = false := beqF h5
            have HO7 := Lib.hid (own_keepB HO.out HBr5.out)
            have HBr7 := Lib.hid (bthen HBr.out HBr5.out)
            have HS := Lib.hid (show (ol.take (t + 1)).filter (isR S d ow nm) = fl from by rw [HFs.out, e5]; simp)
            clear h4 h5 HFs hty HO5a HO1 HO2
            go_wp2_with fail
            go_roundw
            case rel =>
              refine ⟨t + 1, by omega, by go_num, ?_, HBr7.out⟩
              rw [HS.out]
              exact HO7.out
            case measure => simp [intOf]; omega
        · have e4 : (ty == [114, 97, 100, 105, 111]) = false := hty.trans (by simpa using h4)
          have e4k : (kd == 4) = false := by simpa using h4
          have HO7 := Lib.hid (own_keepB HO.out HBr5.out)
          have HBr7 := Lib.hid (bthen HBr.out HBr5.out)
          have HS := Lib.hid (show (ol.take (t + 1)).filter (isR S d ow nm) = fl from by rw [HFs.out, e4k]; simp)
          clear h4 HFs hty HO5a HO1 HO2 e4k
          go_wp2_with fail
          go_roundw
          case rel =>
            refine ⟨t + 1, by omega, by go_num, ?_, HBr7.out⟩
            rw [HS.out]
            exact HO7.out
          case measure => simp [intOf]; omega
      · obtain rfl : t = ol.length := by omega
        rw [List.take_length] at HO ⊢
        go_wp2_with fail
        go_ret
        exact ⟨_, rfl, own_low HO.out HB2.out.size, bthen HB2.out HBr.out⟩
end
end Go.Proofs.YtacdbnhnhdlmpaaGreatDoor.W
end
