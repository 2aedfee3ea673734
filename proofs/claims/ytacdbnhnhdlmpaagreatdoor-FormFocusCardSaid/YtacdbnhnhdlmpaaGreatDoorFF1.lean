/- Texts joined: Mn TwI Own DcP Fcs FcP Hpf FcA FcN Mvk Key Clk. -/
import Derived.Test.YtacdbnhnhdlmpaaGreatDoorFB34
import Derived.LoopTactic
import Derived.BigQuiet
import Derived.Shelf.Strings.Prefix
import Derived.Test.YtacdbnhnhdlmpaaGreatDoorProg
set_option maxRecDepth 100000
set_option maxHeartbeats 40000000
set_option linter.unusedVariables false
set_option linter.unusedSimpArgs false
section
namespace Go.Proofs.YtacdbnhnhdlmpaaGreatDoor.W
open Go.RowKit
def lv (M : List MN) (i : Nat) : Option MN := match M[i]? with | some m => if m.gone then none else some m | none => none
end Go.Proofs.YtacdbnhnhdlmpaaGreatDoor.W
end
section
namespace Go.Proofs.YtacdbnhnhdlmpaaGreatDoor.W
open Go.RowKit
section
variable {ex : Prop} {E : Nat → Prop} {c : Nat} {S S' : Tr} {K K' : Nat → List Nat} {d d' : Nat → Nat} {M M' : List MN} {σ : Nat → Nat}
theorem TrOk.cut (T : TrOk c S K d) {q i x : Nat} (hj : (K q)[i]? = some x) (hk : Cutd S S' (K q) q i x) : TrOk c S' (cutK K q i) (dCut S d x) := by
  refine T.map (cutN S (K q) q i x) (keeps_cut S (K q) q i x) (fun _ _ => rfl) hk.at_ hk.b hk.s hk.free hk.root hk.len (T.lk.cut' hj hk) (fun p np hp => ?_) (fun p h => T.nodoc p (cutK_mem h))
  refine (T.fam p np hp).sub rfl (fun k h => cutK_mem h) (fun k n' hn => ?_)
  rw [hk.at_] at hn
  obtain ⟨n, h1, rfl⟩ := Option.map_eq_some_iff.1 hn
  exact ⟨n, h1, rfl⟩
end
end Go.Proofs.YtacdbnhnhdlmpaaGreatDoor.W
end
section
namespace Go.Proofs.YtacdbnhnhdlmpaaGreatDoor.W
open Go.RowKit
def ownF (S : Tr) : Nat → Option Nat → Option Nat
  | 0, _ => none
  | _, none => none
  | f + 1, some x => if (S.at x).map (fun n => n.name) = some sForm then some x else ownF S f (pr S x)
def ownI (S : Tr) (d : Nat → Nat) (i : Nat) : Option Nat := ownF S (dO d (pr S i)) (pr S i)
end Go.Proofs.YtacdbnhnhdlmpaaGreatDoor.W
end
section
namespace Go.Proofs.YtacdbnhnhdlmpaaGreatDoor.W
open Go.RowKit
def nmV (n : Nd) : List UInt8 := (attV n sName).getD []
def isR (S : Tr) (d : Nat → Nat) (ow : Int) (nm : List UInt8) (x : Nat) : Bool := match S.at x with
  | some n => kindN n == 4 && hO S (ownI S d x) == ow && nmV n == nm
  | none => false
def grp (S : Tr) (K : Nat → List Nat) (d : Nat → Nat) (i : Nat) (n : Nd) : List Nat :=
  if nmV n = [] then [i] else (ord K d).filter (isR S d (hO S (ownI S d i)) (nmV n))
section
variable {S : Tr} {K : Nat → List Nat} {d : Nat → Nat}
theorem grp_live (D : DcOk S K d) {i : Nat} {n : Nd} (hi : S.at i = some n) : ∀ x ∈ grp S K d i n, (S.at x).isSome = true := by
  intro x hx
  unfold grp at hx
  split at hx
  · rw [List.mem_singleton] at hx; rw [hx, hi]; rfl
  · exact D.ord_live (List.mem_filter.1 hx).1
def ndH (S : Tr) (h : Int) : Option (Nat × Nd) := (S.ix h).bind fun i => (S.at i).map fun n => (i, n)
def gH (S : Tr) (K : Nat → List Nat) (d : Nat → Nat) (h : Int) : List Int := match ndH S h with
  | some (i, n) => (grp S K d i n).map S.hd
  | none => []
def rdH (S : Tr) (h : Int) : Bool := match ndH S h with
  | some (_, n) => kindN n == 4
  | none => false
def atH (S : Tr) (h : Int) : Bool := match ndH S h with
  | some (_, n) => (attV n sChecked).isSome
  | none => false
theorem ndH_hd (D : DcOk S K d) {i : Nat} {n : Nd} (hi : S.at i = some n) : ndH S (S.hd i) = some (i, n) := by
  unfold ndH
  rw [hd_ix D.lk hi, Option.bind_some, hi]; rfl
theorem gH_hd (D : DcOk S K d) {i : Nat} {n : Nd} (hi : S.at i = some n) : gH S K d (S.hd i) = (grp S K d i n).map S.hd := by unfold gH; rw [ndH_hd D hi]
theorem rdH_hd (D : DcOk S K d) {i : Nat} {n : Nd} (hi : S.at i = some n) : rdH S (S.hd i) = (kindN n == 4) := by unfold rdH; rw [ndH_hd D hi]
theorem atH_hd (D : DcOk S K d) {i : Nat} {n : Nd} (hi : S.at i = some n) : atH S (S.hd i) = (attV n sChecked).isSome := by unfold atH; rw [ndH_hd D hi]
theorem isR_self {i : Nat} {n : Nd} (hi : S.at i = some n) (hk : kindN n = 4) : isR S d (hO S (ownI S d i)) (nmV n) i = true := by
  unfold isR
  rw [hi]
  simp [hk]
theorem grp_self (D : DcOk S K d) {i : Nat} {n : Nd} (hi : S.at i = some n) (hk : kindN n = 4) : i ∈ grp S K d i n := by
  unfold grp
  split
  · simp
  · exact List.mem_filter.2 ⟨D.mem_ord (by rw [hi]; rfl), isR_self hi hk⟩
theorem map_nd (D : DcOk S K d) {l : List Nat} (h : l.Nodup) (hl : ∀ x ∈ l, (S.at x).isSome = true) : (l.map S.hd).Nodup := by
  rw [List.nodup_iff_pairwise_ne, List.pairwise_map]
  exact List.Pairwise.imp_of_mem (fun ha hb hne e => hne (D.hd_inj (hl _ ha) (hl _ hb) e)) h
theorem grp_nd (D : DcOk S K d) (i : Nat) (n : Nd) : (grp S K d i n).Nodup := by
  unfold grp
  split
  · simp
  · exact D.ord_nd.filter _
end
end Go.Proofs.YtacdbnhnhdlmpaaGreatDoor.W
end
section
namespace Go.Proofs.YtacdbnhnhdlmpaaGreatDoor.W
open Go.RowKit
def sDisabled : List UInt8 := [100, 105, 115, 97, 98, 108, 101, 100]
end Go.Proofs.YtacdbnhnhdlmpaaGreatDoor.W
end
section
namespace Go.Proofs.YtacdbnhnhdlmpaaGreatDoor.W
open Go.RowKit
def sTabI : List UInt8 := [116, 97, 98, 105, 110, 100, 101, 120]
def noMi (v : List UInt8) : Bool := !(v.take 1 == [45])
def focN (n : Nd) : Bool := (!(kindN n == 0) && (!(kindN n == 5) && !(attV n sDisabled).isSome)) || ((n.name == sA && (attV n sHref).isSome) || ((attV n sTabI).isSome && noMi ((attV n sTabI).getD [])))
def focP (S : Tr) (x : Nat) : Bool := match S.at x with
  | some n => focN n
  | none => false
theorem focP_at {S : Tr} {x : Nat} {n : Nd} (h : S.at x = some n) : focP S x = focN n := by unfold focP; rw [h]
def focL (S : Tr) (K : Nat → List Nat) (d : Nat → Nat) : List Nat := (ord K d).filter (focP S)
theorem attV_nil {n : Nd} (h : n.attrs = []) (x : List UInt8) : attV n x = none := by
  unfold attV
  rw [h]
  split <;> rfl
theorem focN_bare {n : Nd} (h : n.attrs = []) (hk : kindN n = 0) : focN n = false := by
  unfold focN
  simp only [hk, attV_nil h]
  simp
section
variable {S : Tr} {K : Nat → List Nat} {d : Nat → Nat}
theorem focL_len (D : DcOk S K d) : (focL S K d).length ≤ 100 := Nat.le_trans (List.length_filter_le _ _) D.ord_len
theorem focL_nd (D : DcOk S K d) : (focL S K d).Nodup := D.ord_nd.filter _
theorem focL_at {x : Nat} (h : x ∈ focL S K d) : ∃ n, S.at x = some n ∧ focN n = true := by
  have h2 := (List.mem_filter.1 h).2
  unfold focP at h2
  split at h2
  · rename_i n hn
    exact ⟨n, hn, h2⟩
  · cases h2
theorem focL_mem (D : DcOk S K d) {x : Nat} {n : Nd} (hx : S.at x = some n) : x ∈ focL S K d ↔ focN n = true := by
  unfold focL
  rw [List.mem_filter, focP_at hx]
  exact ⟨fun h => h.2, fun h => ⟨D.mem_ord (by rw [hx]; rfl), h⟩⟩
theorem focL_in {hdf : Nat → Int} {N : Nat} {L : List Nat} (D : DcI hdf N S K d L) {x : Nat} (h : x ∈ focL S K d) : x ∈ L := by
  obtain ⟨n, hn, hf⟩ := focL_at h
  refine Classical.byContradiction fun hm => ?_
  obtain ⟨h1, h2⟩ := D.oth x n hn hm
  rw [focN_bare h1 h2] at hf
  cases hf
end
end Go.Proofs.YtacdbnhnhdlmpaaGreatDoor.W
end
section
namespace Go.Proofs
open Go.Shelf
def Tryz.lays99_ren : Go.Shelf.Ren := ⟨fun | 99 => 138 | 206 => 159 | n => n, fun | 9 => 9 | 4 => 4 | 3 => 3 | n => n, fun | n => n⟩
theorem Tryz.lays99 : Go.Proofs.Lays.n99 Tryz.prog Tryz.lays99_ren := {
  mixed := by kernel_rfl
  f99 := Tryz.func138.trans (congrArg some (by kernel_rfl))
  f206 := Tryz.func159.trans (congrArg some (by kernel_rfl))
  t3 := Tryz.underlying3
  a3 := Tryz.isAgg3
  z3 := Tryz.sizeOf3
  v3 := Tryz.zeroValue3
  t4 := Tryz.underlying4
  a4 := Tryz.isAgg4
  z4 := Tryz.sizeOf4
  v4 := Tryz.zeroValue4
  t9 := Tryz.underlying9
  a9 := Tryz.isAgg9
  z9 := Tryz.sizeOf9
  v9 := Tryz.zeroValue9 }
open Go.RowKit Go.Lib in
theorem Tryz.strings_HasPrefix (s p : ByteArray) (w : World) :
    Calls Tryz.prog 138 #[.string s, .string p] w fun e w' => e = .returned (.bool (Lib.hasPrefix s.data.toList p.data.toList)) ∧ w' = w := Any.strings_HasPrefix Tryz.lays99 s p w
end Go.Proofs
end
section
namespace Go.Proofs.YtacdbnhnhdlmpaaGreatDoor.W
open Go.RowKit
theorem hpf_min (v : List UInt8) (w : World) : Calls Tryz.prog 138 #[.string ⟨v.toArray⟩, .string ⟨#[45]⟩] w fun e w' => e = .returned (.bool (!noMi v)) ∧ w' = w := by
  have := Tryz.strings_HasPrefix ⟨v.toArray⟩ ⟨#[45]⟩ w
  have e : Lib.hasPrefix (⟨v.toArray⟩ : ByteArray).data.toList (⟨#[45]⟩ : ByteArray).data.toList = !noMi v := by
    unfold noMi
    cases v with
    | nil => rfl
    | cons a v =>
      by_cases e : a = 45
      · subst e; simp [Lib.hasPrefix, List.isPrefixOf]
      · have e2 : (45 == a) = false := by simpa using fun q => e q.symm
        have e3 : (a == 45) = false := by simpa using e
        simp [Lib.hasPrefix, List.isPrefixOf, e2, e3]
  rwa [e] at this
section
variable {B R : Nat} {S : Tr} {sv fv : Value} {w : World} {K : Nat → List Nat} {d : Nat → Nat}
set_option maxRecDepth 100000 in
set_option maxHeartbeats 8000000 in
theorem focusable_any (h : TAt B R S sv fv w) (hL : Lk S K d) (i : Nat) (n : Nd) (hi : S.at i = some n) (hl : n.attrs.length ≤ 1000) :
    Calls Tryz.prog 98 #[.pointer (some ⟨R, 0, none⟩), .int .i64 (S.hd i)] w fun e w' => e = .returned (.bool (focN n)) ∧ Below w.heap.size w w' := by
  have HN := Lib.hid (node_some h (S.hd i) (hd_ok hL hi).1 (hd_ix hL hi) (at_slot hi) hl)
  have HK := Lib.hid (fun wx (hb : Below w.heap.size w wx) => kind_any (h.below hb) hL i n hi hl)
  have HH := Lib.hid (fun x wx (hb : Below w.heap.size w wx) => has_any (h.below hb) hL i n hi hl x)
  have HA := Lib.hid (fun wx (hb : Below w.heap.size w wx) => attr_at (h.below hb) hL i n hi hl sTabI)
  have HD := Lib.hid (HH.out sDisabled)
  have HR := Lib.hid (HH.out sHref)
  have HP := Lib.hid (fun wx => hpf_min ((attV n sTabI).getD []) wx)
  unfold focN
  generalize kindN n = k at *
  generalize (attV n sDisabled).isSome = dis at *
  generalize (attV n sHref).isSome = hr at *
  generalize (attV n sTabI).getD [] = tv at *
  generalize (attV n sTabI).isSome = th at *
  generalize noMi tv = mi at *
  obtain ⟨nk, nm, nav, nal, nda, np, nf, nl, npv, nx⟩ := n
  simp only at HN hl ⊢
  obtain ⟨res, hres⟩ : ∃ res, ((!(k == 0) && (!(k == 5) && !dis)) || ((nm == sA && hr) || (th && mi))) = res := ⟨_, rfl⟩
  rw [hres]
  have HRes := Lib.hid hres
  clear h hi hres HH
  go_enter Tryz.func98, Tryz.ntmps98
  go_wp2_with fail
  refine HN.out.mono ?_
  rintro e w1 ⟨v', rfl, ho, hb1⟩
  obtain ⟨va, vc, rfl⟩ := own_shapeB ho
  clear ho
  simp only [ndC, strV]
  have hb2 := hb1.alloc hb1.size (.cells #[.int .i64 nk, .string ⟨nm.toArray⟩, .slice va nal.length vc, .string ⟨nda.toArray⟩, .int .i64 np, .int .i64 nf, .int .i64 nl, .int .i64 npv, .int .i64 nx] 135)
  have kn := Blk.new w1 [.int .i64 nk, .string ⟨nm.toArray⟩, .slice va nal.length vc, .string ⟨nda.toArray⟩, .int .i64 np, .int .i64 nf, .int .i64 nl, .int .i64 npv, .int .i64 nx] 135
  have HKn := Lib.hid kn
  clear hb1 kn
  go_wp2_with fail
  refine (HK.out _ hb2).mono ?_
  rintro e w2 ⟨rfl, hb3⟩
  have HB4 := Lib.hid (bthen hb2 hb3)
  have HKn2 := Lib.hid (HKn.out.below hb3)
  clear hb3 hb2 HKn HN HK
  generalize w1.heap.size = g at *
  have c1 := HKn2.out.cell 1
  simp only [List.getElem?_cons_zero, List.getElem?_cons_succ] at c1
  obtain ⟨b1, hb1⟩ : ∃ b1 : Bool, ((!(k == 0) && (!(k == 5) && !dis)) || (nm == sA && hr)) = b1 := ⟨_, rfl⟩
  have HB1 := Lib.hid hb1
  clear hb1
  go_upto_region 3 with fail
  go_cut [40] (fun cv wx => cv = .bool b1 ∧ Below w2.heap.size w2 wx)
  case first =>
    by_cases hf : k ≠ 0 ∧ k ≠ 5 ∧ dis = false
    · obtain ⟨h0, h5, rfl⟩ := hf
      have e0 : ((k : Int) != 0) = true := by simp; omega
      have e5 : ((k : Int) != 5) = true := by simp; omega
      have HE := Lib.hid (show b1 = true from by rw [← HB1.out]; simp [h0, h5])
      clear HB1 h0 h5
      go_wp2_with fail
      refine (HD.out _ HB4.out).mono ?_
      rintro e w3 ⟨rfl, hb5⟩
      have HB5 := Lib.hid hb5
      clear hb5
      go_wp2_with fail
      go_meet
      exact ⟨by rw [HE.out], HB5.out⟩
    · have HE := Lib.hid (show b1 = (nm == sA && hr) from by
        rw [← HB1.out]
        have : (!(k == 0) && (!(k == 5) && !dis)) = false := by
          cases h1 : (k == 0) <;> cases h2 : (k == 5) <;> cases dis <;> simp_all
        rw [this, Bool.false_or])
      clear HB1
      by_cases h0 : k = 0
      · have e0 : ((k : Int) != 0) = false := by simp [h0]
        clear hf h0
        by_cases ha : nm = sA
        · have ea : (nm == [97]) = true := beqT ha
          have HE2 := Lib.hid (show b1 = hr from by rw [HE.out, ha]; simp)
          clear ha HE
          go_wp2_with fail
          refine (HR.out _ HB4.out).mono ?_
          rintro e w3 ⟨rfl, hb5⟩
          have HB5 := Lib.hid hb5
          clear hb5
          go_wp2_with fail
          go_meet
          exact ⟨by rw [HE2.out], HB5.out⟩
        · have ea : (nm == [97]) = false := beqF ha
          have HE2 := Lib.hid (show b1 = false from by rw [HE.out, show (nm == sA) = false from ea]; rfl)
          clear ha HE
          go_wp2_with fail
          go_meet
          exact ⟨by rw [HE2.out], Below.refl _ _⟩
      · have e0 : ((k : Int) != 0) = true := by simp; omega
        by_cases h5 : k = 5
        · have e5 : ((k : Int) != 5) = false := by simp [h5]
          clear hf h0 h5
          by_cases ha : nm = sA
          · have ea : (nm == [97]) = true := beqT ha
            have HE2 := Lib.hid (show b1 = hr from by rw [HE.out, ha]; simp)
            clear ha HE
            go_wp2_with fail
            refine (HR.out _ HB4.out).mono ?_
            rintro e w3 ⟨rfl, hb5⟩
            have HB5 := Lib.hid hb5
            clear hb5
            go_wp2_with fail
            go_meet
            exact ⟨by rw [HE2.out], HB5.out⟩
          · have ea : (nm == [97]) = false := beqF ha
            have HE2 := Lib.hid (show b1 = false from by rw [HE.out, show (nm == sA) = false from ea]; rfl)
            clear ha HE
            go_wp2_with fail
            go_meet
            exact ⟨by rw [HE2.out], Below.refl _ _⟩
        · have e5 : ((k : Int) != 5) = true := by simp; omega
          have hdt : dis = true := by
            cases dis with
            | true => rfl
            | false => exact absurd ⟨h0, h5, rfl⟩ hf
          subst hdt
          clear hf h0 h5
          go_wp2_with fail
          refine (HD.out _ HB4.out).mono ?_
          rintro e w3 ⟨rfl, hb5⟩
          have HB5 := Lib.hid hb5
          have HB6 := Lib.hid (bthen HB4.out hb5)
          have c1 := (HKn2.out.below hb5).cell 1
          simp only [List.getElem?_cons_zero, List.getElem?_cons_succ] at c1
          clear hb5
          by_cases ha : nm = sA
          · have ea : (nm == [97]) = true := beqT ha
            have HE2 := Lib.hid (show b1 = hr from by rw [HE.out, ha]; simp)
            clear ha HE
            go_wp2_with fail
            refine (HR.out _ HB6.out).mono ?_
            rintro e w4 ⟨rfl, hb6⟩
            have HB7 := Lib.hid (bthen HB5.out hb6)
            clear hb6
            go_wp2_with fail
            go_meet
            exact ⟨by rw [HE2.out], HB7.out⟩
          · have ea : (nm == [97]) = false := beqF ha
            have HE2 := Lib.hid (show b1 = false from by rw [HE.out, show (nm == sA) = false from ea]; rfl)
            clear ha HE
            go_wp2_with fail
            go_meet
            exact ⟨by rw [HE2.out], HB5.out⟩
  case rest =>
  obtain ⟨rfl, hbc⟩ := hcut
  have HB5 := Lib.hid (bthen HB4.out hbc)
  clear hbc c1
  have hres : (b1 || (th && mi)) = res := by rw [← HB1.out, Bool.or_assoc]; exact HRes.out
  clear HB1 HRes HD HR HKn2
  cases b1 with
  | true =>
    have HE := Lib.hid (show res = true from by rw [← hres]; simp)
    clear hres
    go_wp2_with fail
    go_ret
    rw [HE.out]
    exact ⟨rfl, HB5.out⟩
  | false =>
    go_wp2_with fail
    refine (HA.out _ HB5.out).mono ?_
    rintro e w6 ⟨rfl, hb6⟩
    have HB6 := Lib.hid (bthen HB5.out hb6)
    clear hb6
    cases th with
    | false =>
      have HE := Lib.hid (show res = false from by rw [← hres]; simp)
      clear hres
      go_wp2_with fail
      go_ret
      rw [HE.out]
      exact ⟨rfl, HB6.out⟩
    | true =>
      have HE := Lib.hid (show res = mi from by rw [← hres]; simp)
      clear hres
      go_wp2_with fail
      refine (HP.out _).mono ?_
      rintro e w7 ⟨rfl, rfl⟩
      go_wp2_with fail
      go_ret
      rw [HE.out]
      exact ⟨by simp, HB6.out⟩
end
end Go.Proofs.YtacdbnhnhdlmpaaGreatDoor.W
end
section
namespace Go.Proofs.YtacdbnhnhdlmpaaGreatDoor.W
open Go.RowKit
attribute [local go_sem] Oper.semAt_some
section
variable {R : Nat} {S : Tr} {sv fv : Value} {w : World} {K : Nat → List Nat} {d : Nat → Nat}
set_option maxRecDepth 100000 in
set_option maxHeartbeats 16000000 in
theorem focusables_any (D : DcOk S K d) (h : TAt 0 R S sv fv w) :
    Calls Tryz.prog 51 #[.pointer (some ⟨R, 0, none⟩)] w fun e w' => ∃ v, e = .returned v ∧ w'.ownsRow w.heap.size 3 1 v (focL S K d).length (hdC S (focL S K d)) ∧ Below w.heap.size w w' := by
  obtain ⟨n0, hn0⟩ := Option.isSome_iff_exists.1 D.live0
  obtain ⟨g, cap, rfl⟩ := slots_some h (by have := at_lt hn0; omega)
  have HFo := Lib.hid (fun (x : Nat) (nx : Nd) (hx : S.at x = some nx) (wx : World) (hb : Below w.heap.size w wx) => focusable_any (h.below hb) D.lk x nx hx (D.al x nx hx))
  have HT := Lib.hid (fun (wx : World) (hb : Below w.heap.size w wx) => h.below hb)
  have HN0 := Lib.hid hn0
  have HD := Lib.hid D
  have HRc := Lib.hid (fun (wx : World) (hb : Below w.heap.size w wx) => (show wx.cell? ⟨R, 5, none⟩ = some (.int .i64 (S.hd 0)) from by
    have := (h.below hb).blk.cell 5
    simp only [List.getElem?_cons_succ, List.getElem?_cons_zero] at this
    rw [this, D.ok.root]))
  have HIs := Lib.hid (fun (x : Nat) (nx : Nd) (hx : S.at x = some nx) => focP_at hx)
  have k1 := Blk.new w [.pointer (some ⟨R, 0, none⟩)] 25
  have hb1 : Below w.heap.size w (w.alloc (.cells #[.pointer (some ⟨R, 0, none⟩)] 25)) := (Below.refl _ _).alloc (Nat.le_refl _) _
  have HK1 := Lib.hid k1
  have HB4 := Lib.hid hb1
  have c0 := k1.cell 0
  simp only [List.getElem?_cons_zero] at c0
  clear h hn0 k1 hb1 D
  refine (callsIn_wide (n := 8)).1 ?_
  refine callsIn_of_wp_marks Tryz.func51 rfl trivial ?_ rfl
  simp only [Tryz.ntmps51, List.size_toArray, List.length_cons, List.length_nil, Nat.reduceAdd, Nat.reduceSub, Array.replicate_succ, Array.replicate_zero, List.push_toArray, List.append_toArray, List.nil_append, List.cons_append]
  refine wpIn_wide.2 ?_
  go_upto_region 1 with fail
  have hs4 : w.heap.size + 1 = (w.alloc (.cells #[.pointer (some ⟨R, 0, none⟩)] 25)).heap.size := by simp
  generalize w.alloc (.cells #[.pointer (some ⟨R, 0, none⟩)] 25) = w4 at *
  have hol3 := HK1.out.lt
  have kb5 := Blk.new w4 [.slice none 0 0] 60
  have hb5 : Below w4.heap.size w4 (w4.alloc (.cells #[.slice none 0 0] 60)) := (Below.refl _ _).alloc (Nat.le_refl _) _
  go_upto_region 2 with fail
  generalize hw5 : w4.alloc (.cells #[.slice none 0 0] 60) = w5 at *
  have hs5 : w5.heap.size = w4.heap.size + 1 := by rw [← hw5]; simp
  have HB5 := Lib.hid hb5
  have HKb5 := Lib.hid kb5
  have hne := stb_ne w5
  have y0 := fun (x : InS (StB w5)) => (HK1.out.below (bthen HB5.out x.h)).cell 0
  have y5 := fun (x : InS (StB w5)) => HRc.out x.w (bthen HB4.out (bthen HB5.out x.h))
  simp only [List.getElem?_cons_zero] at y0
  clear kb5 hb5 hw5 c0
  refine reg_f (FWk R (S.hd 0) w5.heap.size) VWk 6 (by kernel_rfl) (by kernel_rfl) fwk_below trivial ?_
  simp only [List.take_succ_cons, List.take_zero, List.drop_succ_cons, List.drop_zero]
  repeat (first
    | (refine RV.m_held (by rfl) (by rfl) (fun K hK => ?_); go_big_quiet_step (fail); refine wpQuiet_nil ?_; refine hK.out _ ?_; clear hK K)
    | (refine RV.m_skip (by rfl) ?_; simp only [Act.put, List.setIfInBounds_toArray, List.set_cons_zero, List.set_cons_succ]))
  refine RV.m_call (by rfl) (by rfl) (fun w => by go_simp; exact ⟨rfl, rfl⟩) (⟨_, 0, rfl⟩) (fun X wx hx => ?_) (fun v hv => ?_)
  · refine (walk_any R (S.hd 0) wx).mono ?_
    rintro e wy ⟨rfl, hw⟩
    have hbw : Below wx.heap.size wx wy := by rw [hw]; exact ((Below.refl _ _).alloc (Nat.le_refl _) _).alloc (by simp) _
    refine ⟨_, rfl, ⟨_, rfl⟩, bthen hx.1 hbw, fun m e => ?_⟩
    have em : m = wx.heap.size := by simp at e; omega
    subst em
    refine ⟨hx.1.size, ?_, ?_⟩
    · rw [hw]; exact (Blk.new wx [.pointer (some ⟨R, 0, none⟩)] 25).alloc _
    · have k2 := Blk.new (wx.alloc (.cells #[.pointer (some ⟨R, 0, none⟩)] 25)) [.int .i64 (S.hd 0)] 3
      rw [show (wx.alloc (.cells #[.pointer (some ⟨R, 0, none⟩)] 25)).heap.size = wx.heap.size + 1 by simp] at k2
      rw [hw]; exact k2
  obtain ⟨mw, rfl⟩ := hv
  simp only [Act.put, List.setIfInBounds_toArray, List.set_cons_zero, List.set_cons_succ]
  repeat (first
    | (refine RV.m_held (by rfl) (by rfl) (fun K hK => ?_); go_big_quiet_step (fail); refine wpQuiet_nil ?_; refine hK.out _ ?_; clear hK K)
    | (refine RV.m_skip (by rfl) ?_; simp only [Act.put, List.setIfInBounds_toArray, List.set_cons_zero, List.set_cons_succ]))
  refine RV.m_nil ?_
  intro w6 hb6 hF6
  obtain ⟨hm1, hBs, hBh⟩ := hF6 mw rfl
  have hb6 : Below w5.heap.size w5 w6 := hb6
  have hI := colP_start (S := S) (p := focP S) (HKb5.out.below hb6) (bthen HB5.out hb6)
  have HI := Lib.hid hI
  have HSq := Lib.hid (fun m => walk1_l (n := m) (HT.out _ HB4.out) HD.out.lk n0 HN0.out (colP_wki hI) hBs hBh)
  have hs6 := hb6.size
  clear y0 y5 hne hb6 hF6 hBs hBh hI
  go_wp2_with fail
  refine (wpIn_wide (n := 8)).1 ?_
  refine rangeFunc_put (α := Sl S) (fun x a => { tmps := (a.tmps.setIfInBounds 11 (.int .i64 (S.hd x.1))).setIfInBounds 4 (.int .i64 (S.hd x.1)), defers := [] }) (by omega) (gf := 136) (lb := #[.pointer (some ⟨mw, 0, none⟩), .pointer (some ⟨mw + 1, 0, none⟩)]) rfl (enters_of Tryz.func136 (by kernel_rfl) rfl) (HSq.out 7) KpS.trans (fun W l o o' hl h hc _ => KpS.put2 l o o' h hc (by omega)) (fun _ => rfl)
    (fun pre W => ColP S (focP S) w4 pre W) (fun c pre W => False) ?own (fun _ _ _ _ _ hs _ _ => hs) HI.out ?assign ?body ?done ?stop
  case own =>
    intro pre W W' row hI hg hr
    exact colP_own hI hg (fun k e => ⟨by have := (hr k e).1; omega, (hr k e).2⟩)
  case assign =>
    intro l x W K hK
    gi_wp2
    exact hK
  case stop =>
    intro D c pre W hD hs hx
    cases hx
  case body =>
    rintro l' pre ⟨x, hxs⟩ W hI hlt'
    obtain ⟨nx, hnx⟩ := Option.isSome_iff_exists.1 hxs
    have hbW : Below w4.heap.size w4 W := by obtain ⟨_, _, _, h⟩ := hI; exact h
    have hbw := bthen HB4.out hbW
    have HFx := Lib.hid (HFo.out x nx hnx W hbw)
    have hisr := HIs.out x nx hnx
    have ct := (HK1.out.below hbW).cell 0
    simp only [List.getElem?_cons_zero] at ct
    have HI := Lib.hid hI
    have HIr := Lib.hid hisr
    have HBW := Lib.hid hbW
    generalize focN nx = fx at *
    have hbl := colP_lt hI
    clear hI hbW hbw hisr HK1 HSq
    simp only [List.setIfInBounds_toArray, List.set_cons_zero, List.set_cons_succ]
    gi_wp2_with fail
    refine ⟨trivial, (CallsIn.inRound l' (callsIn_wide.2 HFx.out)).mono ?_⟩
    rintro e w8 ⟨rfl, hb8⟩
    have Hbz := Lib.hid hb8
    have hI8 := colP_below HI.out hb8
    clear hb8 HFx ct
    cases fx with
    | true =>
      have HP := HIr
      have hpl : ((pre.map (fun y => y.1)).filter (focP S)).length ≤ 100 := by
        have := List.length_filter_le (focP S) (pre.map (fun y => y.1))
        have h2 := wlk_len HD.out.lk (128 - d 0) 0 HD.out.live0
        have h3 := HD.out.len
        rw [List.length_map] at this
        omega
      obtain ⟨v, hbx, ho, hB⟩ := hI8
      obtain ⟨va, vc, rfl⟩ := own_shapeB ho
      have HO := Lib.hid ho
      have HBx := Lib.hid hbx
      have HB := Lib.hid hB
      have hbl8 := hbx.lt
      have d0 := hbx.cell 0
      have g0 := hbx.free 0
      simp only [List.getElem?_cons_zero] at d0
      have hfs := filter_snoc (focP S) (pre.map (fun y => y.1)) x
      rw [if_pos HP.out] at hfs
      have HFs := Lib.hid (show ((pre ++ [(⟨x, hxs⟩ : Sl S)]).map (fun y => y.1)).filter (focP S) = (pre.map (fun y => y.1)).filter (focP S) ++ [x] from by rw [List.map_append, List.map_singleton]; exact hfs)
      generalize (pre.map (fun y => y.1)).filter (focP S) = fl at *
      have hb9 : Below w8.heap.size w8 (w8.alloc (.cells #[.int .i64 (S.hd x)] 3)) := (Below.refl _ _).alloc (Nat.le_refl _) _
      have HB9 := Lib.hid hb9
      have hsz8 := HB.out.size
      clear hbx ho hB hb9 hfs
      gi_wp2_with (first
        | (gi_at_builtin; refine wpListIn_append_B etI (own_keepB HO.out HB9.out) (by simp; omega) (own_at (n := 1) (size := 1) (Blk.new w8 [.int .i64 (S.hd x)] 3) rfl (by omega)) (by intro u hu; simp at hu; subst hu; rfl) (by omega) (by omega) rfl _ _ rfl rfl rfl ?_; intro v' w10 ho2 hg2 hv2;
            obtain ⟨va', vc', rfl⟩ := own_shapeB ho2; have kb2 := (Blk.below HBx.out HB9.out).kept (hg2.block w4.heap.size (by simp; omega) (fun e => by
              obtain ⟨cur, hc⟩ := own_ty HO.out e.symm
              exact blk_ne hc HBx.out (by decide) rfl));
            have d1 := kb2.cell 0; have e1 := kb2.free 0; simp only [List.getElem?_cons_zero] at d1; have HO2 := Lib.hid ho2; have HG2 := Lib.hid hg2; have HV2 := Lib.hid hv2; have HK2b := Lib.hid kb2; clear ho2 hg2 hv2 kb2)
        | gi_in)
      have hO1 := own_keepB HO.out HB9.out
      have hg := HG2.out
      have hw9 : (w8.alloc (.cells #[.int .i64 (S.hd x)] 3)).heap.size = w8.heap.size + 1 := by simp
      have kb3 := HK2b.out.set 0 (.slice va' (fl.length + 1) vc')
      simp only [List.set_cons_zero] at kb3
      have e1 : slB w4.heap.size w8 = (Value.slice va fl.length vc).ownBlock := by unfold slB; rw [d0]; rfl
      have e3 : slB w4.heap.size (w10.setCell ⟨w4.heap.size, 0, none⟩ (.slice va' (fl.length + 1) vc')) = (Value.slice va' (fl.length + 1) vc').ownBlock := by
        unfold slB
        have := kb3.cell 0
        simp only [List.getElem?_cons_zero] at this
        rw [this]; rfl
      have hne2 : ∀ k, (Value.slice va' (fl.length + 1) vc').ownBlock = some k → k ≠ w4.heap.size := fun k hk e => by
        obtain ⟨cur, hc⟩ := own_ty HO2.out hk
        subst e
        exact blk_ne hc HK2b.out (by decide) rfl
      refine ⟨(keeps_below Hbz.out).trans ((keeps_below HB9.out).trans (KeepsOthers.trans ⟨hg.size, fun k o hk ho => (hg.block k (Array.getElem?_eq_some_iff.1 hk).1 (fun e => by
        obtain ⟨cur, hc⟩ := own_ty hO1 e.symm
        rw [hc] at hk; cases hk; cases ho)).trans hk⟩ (KeepsOthers.setCell _ _ _))), (KpS.below hbl Hbz.out).trans ⟨?_, ?_, ?_⟩, ?_⟩
      · have := hg.size
        simp only [World.setCell, Array.size_modify]
        omega
      · intro k cs t fr hk h1 h2
        rw [e1] at h2
        have hkl := (Array.getElem?_eq_some_iff.1 hk).1
        exact (Below.heap_setCell _ _ _ _ h1).trans ((hg.block k (by omega) (fun e => h2 e.symm)).trans ((HB9.out.block k hkl).trans hk))
      · rw [e1, e3]
        rcases HV2.out with e | e
        · exact .inl e
        · refine .inr (fun k hk => ?_)
          rw [e] at hk
          cases hk
          refine ⟨by omega, ?_⟩
          have := (HO2.out.lt _ e).2
          simpa [World.setCell] using this
      · refine ⟨.slice va' (fl.length + 1) vc', kb3, ?_, ?_⟩
        · rw [HFs.out, show (fl ++ [x]).length = fl.length + 1 by simp, ← hdC_app]
          exact own_kB HO2.out (fun k hk => Below.heap_setCell _ _ _ _ (hne2 k hk))
        · exact ((HB.out.alloc HB.out.size (.cells #[.int .i64 (S.hd x)] 3)).grown hg (by have := HB.out.size; omega) (fun k e => (hO1.lt k e).1)).setCell (p := ⟨w4.heap.size, 0, none⟩) (Nat.le_refl _) _
    | false =>
      have HI8 := Lib.hid hI8
      clear hI8
      gi_wp2_with fail
      exact ⟨keeps_below Hbz.out, KpS.below hbl Hbz.out, colP_no HI8.out HIr.out⟩
  case done =>
    rintro Dn ys W hDn hys hI hK
    obtain ⟨v, hbx, ho, hB⟩ := hI
    rw [hys] at ho
    obtain ⟨va, vc, rfl⟩ := own_shapeB ho
    have d0 := hbx.cell 0
    simp only [List.getElem?_cons_zero] at d0
    have HO := Lib.hid ho
    have HB := Lib.hid hB
    have HKD := Lib.hid hK
    have hDl : Dn < W.heap.size := (Array.getElem?_eq_some_iff.1 hK).1
    have hsz := hB.size
    clear hbx ho hB hK HSq hys
    go_wp2_with fail
    refine one_mark HKD.out ?_
    refine ⟨.slice va ((wlk K (128 - d 0) 0).filter (focP S)).length vc, ?_, .slice va ((wlk K (128 - d 0) 0).filter (focP S)).length vc, rfl, ?_, below_put _ (bthen HB4.out HB.out) (by have := HB4.out.size; omega) hDl⟩
    · simp [results, Tryz.f51, go_sem]
    · refine own_low (own_kB HO.out (fun k hk => World.putObj_heap_other (fun e => ?_))) HB4.out.size
      obtain ⟨cur, hc⟩ := own_ty HO.out hk
      rw [e, HKD.out] at hc
      cases hc
end
end Go.Proofs.YtacdbnhnhdlmpaaGreatDoor.W
end
section
namespace Go.Proofs.YtacdbnhnhdlmpaaGreatDoor.W
open Go.RowKit
def actV (k h f : Int) : Value := .agg #[.int .i64 k, .int .i64 h, .int .i64 f]
theorem res_ac {fn : Func} {j : Nat} (h : fn.results = #[.cell j 91]) {tmps : Array Value} {w : World} {r : Nat} {k h0 f : Int} (hp : tmps.getD j undef = .pointer (some ⟨r, 0, none⟩)) (hk : Blk w r [.int .i64 k, .int .i64 h0, .int .i64 f] 91) :
    (results fn tmps).run Tryz.prog w = .ok (actV k h0 f) w := by
  have c0 := hk.cell 0
  have c1 := hk.cell 1
  have c2 := hk.cell 2
  simp only [List.getElem?_cons_succ, List.getElem?_cons_zero] at c0 c1 c2
  rw [Array.getD_eq_getD_getElem?] at hp
  simp [results, h, hp, go_sem, actV, c0, c1, c2]
end Go.Proofs.YtacdbnhnhdlmpaaGreatDoor.W
end
section
namespace Go.Proofs.YtacdbnhnhdlmpaaGreatDoor.W
open Go.RowKit
def sTab : List UInt8 := [84, 97, 98]
def sShift : List UInt8 := [83, 104, 105, 102, 116, 84, 97, 98]
end Go.Proofs.YtacdbnhnhdlmpaaGreatDoor.W
end
section
namespace Go.Proofs.YtacdbnhnhdlmpaaGreatDoor.W
open Go.RowKit
theorem root_sub {S : Tr} {K : Nat → List Nat} {d : Nat → Nat} (D : DcOk S K d) : ∀ (m i : Nat), d i = m → (S.at i).isSome = true → subB S d 0 i = true := by
  intro m
  induction m using Nat.strongRecOn with
  | ind m ih =>
    intro i hm hx
    by_cases h0 : i = 0
    · subst h0; rw [sub_top D.lk hx D.ok.nodoc]; rfl
    · obtain ⟨q, hq⟩ := D.att i hx h0
      have hd := D.lk.dep q i hq
      rw [sub_kid D.lk hq, ih (d q) (by omega) q rfl (D.lk.kin q i hq).1]
      simp
theorem fs_newbk {B : Nat} {w0 w : World} {Q : Nat} {fa : Value} {foc : Int} {X : List FX} {l : List Ob} (h : All B w0 (fsL Q fa foc X ++ l) w) (g : Nat) (hg : w.heap.size = g) (cs : List Value) (t : TypeId) : All B w0 (fsL Q fa foc X ++ bk g cs t :: l) (w.alloc (.cells cs.toArray t)) :=
  (h.newBkA g hg cs t).perm List.perm_middle.symm
theorem fs_dropbk {B : Nat} {w0 w : World} {Q : Nat} {fa : Value} {foc : Int} {X : List FX} {l : List Ob} {o : Ob} (h : All B w0 (fsL Q fa foc X ++ o :: l) w) : All B w0 (fsL Q fa foc X ++ l) w :=
  h.sub (List.Sublist.append_left (List.sublist_cons_self _ _) _)
theorem fs_setFoc {B : Nat} {w0 w : World} {Q : Nat} {fa : Value} {foc : Int} {X : List FX} {l : List Ob} (h : All B w0 (fsL Q fa foc X ++ l) w) (x : Int) : All B w0 (fsL Q fa x X ++ l) (w.setCell ⟨Q, 1, none⟩ (.int .i64 x)) ∧ w.frozen? ⟨Q, 1, none⟩ = false := by
  have hk : Blk w Q [fa, .int .i64 foc] 30 := h.head
  exact ⟨All.setBk [] h 1 (.int .i64 x), hk.free 1⟩
end Go.Proofs.YtacdbnhnhdlmpaaGreatDoor.W
end
