/- Texts joined: Chk Chs. -/
import Derived.Test.YtacdbnhnhdlmpaaGreatDoorFH8
set_option maxRecDepth 100000
set_option maxHeartbeats 40000000
set_option linter.unusedVariables false
set_option linter.unusedSimpArgs false
section
namespace Go.Proofs.YtacdbnhnhdlmpaaGreatDoor.W
open Go.RowKit
theorem touL_snoc (X : List FX) (l : List Int) (a : Int) : touL X (l ++ [a]) = touX (touL X l) a false := by
  induction l generalizing X with
  | nil => rfl
  | cons b l ih => exact ih _
section
variable {B R Q : Nat} {S : Tr} {sv fv fa : Value} {w0 w : World} {K : Nat → List Nat} {d : Nat → Nat} {X : List FX} {foc : Int} {l : List Ob}
theorem uX_none {hd : Int} (h : fixX X hd = none) : uX X hd = none := by
  unfold uX
  rw [(fix_none h).2]; rfl
set_option maxRecDepth 100000 in
set_option maxHeartbeats 8000000 in
theorem radio_any (D : DcOk S K d) (h : All B w0 (fsL Q fa foc X ++ l) w) (hO : trO R S sv fv ∈ l) (i : Nat) (n : Nd) (hi : S.at i = some n) (hl : X.length ≤ 100000) :
    Calls Tryz.prog 80 #[.pointer (some ⟨Q, 0, none⟩), .pointer (some ⟨R, 0, none⟩), .int .i64 (S.hd i)] w fun e w' => e = .returned (.bool ((attV n sChecked).isSome && radioP (uX X) (atH S) (S.hd i) ((grp S K d i n).map S.hd) false)) ∧ Below w.heap.size w w' := by
  have hT : TAt 0 R S sv fv w := h.P _ (List.mem_append_right _ hO)
  have HHa := Lib.hid (fun (x : Nat) (nx : Nd) (hx : S.at x = some nx) (wx : World) (hb : Below w.heap.size w wx) => has_any (hT.below hb) D.lk x nx hx (D.al x nx hx) sChecked)
  have HGr := Lib.hid (fun (wx : World) (hb : Below w.heap.size w wx) => group_any D (hT.below hb) i n hi)
  have HFd := Lib.hid (fun (x : Int) (wx : World) (hb : Below w.heap.size w wx) => find_any (h.still hb) x (by omega))
  have HGc := Lib.hid (fun (x : Int) (j : Nat) (hj : fixX X x = some j) (wx : World) (hb : Below w.heap.size w wx) => get_cell (h.still hb) hj)
  have HLv := Lib.hid (fun x (hx : x ∈ grp S K d i n) => (show ∃ nx, S.at x = some nx ∧ (attV nx sChecked).isSome = atH S (S.hd x) from by
    obtain ⟨nx, hnx⟩ := Option.isSome_iff_exists.1 (grp_live D hi x hx)
    exact ⟨nx, hnx, by rw [atH_hd D hnx]⟩))
  have HH1 := Lib.hid (HHa.out i n hi w (Below.refl _ _))
  have hgl := grp_len D i n
  obtain ⟨kk, hkk⟩ : ∃ kk, ((attV n sChecked).isSome && radioP (uX X) (atH S) (S.hd i) ((grp S K d i n).map S.hd) false) = kk := ⟨_, rfl⟩
  rw [hkk]
  generalize (attV n sChecked).isSome = ai at *
  generalize grp S K d i n = gl at *
  have HU := Lib.hid (fun (x : Int) => (show uX X x = if (getX X x).touched = true then some (getX X x).checked else none from rfl))
  have HUn := Lib.hid (fun (x : Int) (hx : fixX X x = none) => uX_none hx)
  generalize hu : uX X = u at *
  generalize S.hd i = hd at *
  have HKK := Lib.hid hkk
  clear h hT hO hi hkk hu hl
  go_enter Tryz.func80, Tryz.ntmps80
  go_wp2_with fail
  refine HH1.out.mono ?_
  rintro e w1 ⟨rfl, hb1⟩
  have HB1 := Lib.hid hb1
  have HG1 := Lib.hid (HGr.out _ hb1)
  clear hb1 HH1 HGr
  cases ai with
  | false =>
    have HR := Lib.hid (show kk = false from by rw [← HKK.out]; rfl)
    clear HKK
    go_wp2_with fail
    go_ret
    rw [HR.out]
    exact ⟨rfl, HB1.out⟩
  | true =>
  have HR := Lib.hid (show radioP u (atH S) hd (gl.map S.hd) false = kk from by rw [← HKK.out]; rfl)
  clear HKK
  go_wp2_with fail
  refine HG1.out.mono ?_
  rintro e w2 ⟨v, rfl, hv, hb2⟩
  obtain ⟨va, vc, rfl⟩ := own_shapeB hv
  have HV := Lib.hid hv
  have HB2 := Lib.hid (bthen HB1.out hb2)
  clear hv hb2 HG1
  go_wp2_with fail
  go_loopw [7, 20] (fun bv iv wr => ∃ (t : Nat) (beh : Bool), t ≤ gl.length ∧ iv = .int .i64 (t : Int) ∧ bv = .bool beh ∧ radioP u (atH S) hd ((gl.drop t).map S.hd) beh = kk ∧ Below w2.heap.size w2 wr) (fun _ iv _ => gl.length - (intOf iv).toNat)
  case atStart => exact ⟨0, false, by omega, rfl, rfl, by simpa using HR.out, Below.refl _ _⟩
  case round =>
    obtain ⟨t, beh, ht, rfl, rfl, hrp, hb⟩ := hrel
    have HBr := Lib.hid hb
    have HRp := Lib.hid hrp
    clear hb hrp
    by_cases htl : t < gl.length
    · obtain ⟨k, hk⟩ : ∃ k, gl[t]? = some k := ⟨_, List.getElem?_eq_getElem htl⟩
      obtain ⟨nk, hnk, hatk⟩ := HLv.out k (List.mem_of_getElem? hk)
      obtain ⟨vg, rfl, _, hvc, ck⟩ := hdC_get (own_keepB HV.out HBr.out) hk
      have hbw := bthen HB2.out HBr.out
      have hdr : gl.drop t = k :: gl.drop (t + 1) := by
        obtain ⟨h1, h2⟩ := List.getElem?_eq_some_iff.1 hk
        rw [← h2, List.drop_eq_getElem_cons h1]
      have hrp := HRp.out
      rw [hdr, List.map_cons] at hrp
      unfold radioP at hrp
      have HRp2 := Lib.hid hrp
      have HH2 := Lib.hid (fun (wx : World) (hb : Below wr.heap.size wr wx) => HHa.out k nk hnk wx (bthen hbw hb))
      rw [hatk] at HH2
      have HF2 := Lib.hid (HFd.out (S.hd k) wr hbw)
      have HG2 := Lib.hid (fun (j : Nat) (hj : fixX X (S.hd k) = some j) => HGc.out (S.hd k) j hj wr hbw)
      have HUk := Lib.hid (HU.out (S.hd k))
      have HUk2 := Lib.hid (HUn.out (S.hd k))
      generalize atH S (S.hd k) = ak at *
      generalize S.hd k = hk' at *
      clear hk hnk hatk hbw hdr hrp HRp
      have hcase : (fatO fa (fixX X hk') = none ∧ u hk' = none) ∨ ∃ g j tc ch, fatO fa (fixX X hk') = some ⟨g, j, none⟩ ∧ wr.cell? ⟨g, j + 3, none⟩ = some (.bool tc) ∧ wr.cell? ⟨g, j + 4, none⟩ = some (.bool ch) ∧ u hk' = if tc = true then some ch else none := by
        cases hf : fixX X hk' with
        | none => exact .inl ⟨rfl, HUk2.out hf⟩
        | some j =>
          obtain ⟨g, cap, e1, e2, e3⟩ := HG2.out j hf
          refine .inr ⟨g, j * 9, (getX X hk').touched, (getX X hk').checked, hf ▸ e2, (e3 3 (by omega)).1, (e3 4 (by omega)).1, HUk.out⟩
      clear HG2 HUk HUk2
      rcases hcase with ⟨e0, eu⟩ | ⟨g, j, tc, ch, e0, c3, c4, eu⟩
      · rw [e0] at HF2
        clear e0
        have HEu := Lib.hid eu
        have HBx := Lib.hid (Below.refl wr.heap.size wr)
        clear eu
        go_wp2_with fail
        refine HF2.out.mono ?_
        rintro e w3 ⟨rfl, rfl⟩
        clear HF2
        cases beh with
        | true =>
          go_wp2_with fail
          refine (HH2.out _ HBx.out).mono ?_
          rintro e w4 ⟨rfl, hb4⟩
          have HB4 := Lib.hid (bthen HBr.out (bthen HBx.out hb4))
          clear hb4
          cases ak with
          | true =>
            have HK := Lib.hid (show kk = false from by rw [← HRp2.out]; simp [HEu.out])
            clear HRp2
            go_wp2_with fail
            go_ret
            rw [HK.out]
            exact ⟨rfl, bthen HB2.out HB4.out⟩
          | false =>
            have HK := Lib.hid (show radioP u (atH S) hd ((gl.drop (t + 1)).map S.hd) true = kk from by
              have := HRp2.out
              rw [if_neg (fun q => by rcases q with q | q; rw [HEu.out] at q; cases q; cases q.2.2), Bool.true_or] at this
              exact this)
            clear HRp2
            go_wp2_with fail
            go_roundw
            case rel => exact ⟨t + 1, true, by omega, by go_num, rfl, HK.out, HB4.out⟩
            case measure => simp [intOf]; omega
        | false =>
          have HK := Lib.hid (show radioP u (atH S) hd ((gl.drop (t + 1)).map S.hd) (hk' == hd) = kk from by
            have := HRp2.out
            rw [if_neg (fun q => by rcases q with q | q; rw [HEu.out] at q; cases q; cases q.1), Bool.false_or] at this
            exact this)
          clear HRp2
          go_wp2_with fail
          go_roundw
          case rel => exact ⟨t + 1, hk' == hd, by omega, by go_num, rfl, HK.out, HBr.out⟩
          case measure => simp [intOf]; omega
      · rw [e0] at HF2
        clear e0
        cases tc with
        | false =>
          rw [if_neg (by simp)] at eu
          have HEu := Lib.hid eu
          have HBx := Lib.hid (Below.refl wr.heap.size wr)
          clear eu
          go_wp2_with fail
          refine HF2.out.mono ?_
          rintro e w3 ⟨rfl, rfl⟩
          clear HF2
          cases beh with
          | true =>
            go_wp2_with fail
            refine (HH2.out _ HBx.out).mono ?_
            rintro e w4 ⟨rfl, hb4⟩
            have HB4 := Lib.hid (bthen HBr.out (bthen HBx.out hb4))
            clear hb4
            cases ak with
            | true =>
              have HK := Lib.hid (show kk = false from by rw [← HRp2.out]; simp [HEu.out])
              clear HRp2
              go_wp2_with fail
              go_ret
              rw [HK.out]
              exact ⟨rfl, bthen HB2.out HB4.out⟩
            | false =>
              have HK := Lib.hid (show radioP u (atH S) hd ((gl.drop (t + 1)).map S.hd) true = kk from by
                have := HRp2.out
                rw [if_neg (fun q => by rcases q with q | q; rw [HEu.out] at q; cases q; cases q.2.2), Bool.true_or] at this
                exact this)
              clear HRp2
              go_wp2_with fail
              go_roundw
              case rel => exact ⟨t + 1, true, by omega, by go_num, rfl, HK.out, HB4.out⟩
              case measure => simp [intOf]; omega
          | false =>
            have HK := Lib.hid (show radioP u (atH S) hd ((gl.drop (t + 1)).map S.hd) (hk' == hd) = kk from by
              have := HRp2.out
              rw [if_neg (fun q => by rcases q with q | q; rw [HEu.out] at q; cases q; cases q.1), Bool.false_or] at this
              exact this)
            clear HRp2
            go_wp2_with fail
            go_roundw
            case rel => exact ⟨t + 1, hk' == hd, by omega, by go_num, rfl, HK.out, HBr.out⟩
            case measure => simp [intOf]; omega
        | true =>
          rw [if_pos rfl] at eu
          have HEu := Lib.hid eu
          clear eu
          go_wp2_with fail
          refine HF2.out.mono ?_
          rintro e w3 ⟨rfl, rfl⟩
          clear HF2
          cases ch with
          | true =>
            have HK := Lib.hid (show kk = false from by rw [← HRp2.out, if_pos (.inl HEu.out)])
            clear HRp2
            go_wp2_with fail
            go_ret
            rw [HK.out]
            exact ⟨rfl, bthen HB2.out HBr.out⟩
          | false =>
            have HK := Lib.hid (show radioP u (atH S) hd ((gl.drop (t + 1)).map S.hd) (beh || hk' == hd) = kk from by
              have := HRp2.out
              rw [if_neg (fun q => by rcases q with q | q; rw [HEu.out] at q; cases q; rw [HEu.out] at q; cases q.2.1)] at this
              exact this)
            clear HRp2
            cases beh with
            | true =>
              go_wp2_with fail
              go_roundw
              case rel => exact ⟨t + 1, true, by omega, by go_num, rfl, HK.out, HBr.out⟩
              case measure => simp [intOf]; omega
            | false =>
              go_wp2_with fail
              go_roundw
              case rel => exact ⟨t + 1, hk' == hd, by omega, by go_num, rfl, HK.out, HBr.out⟩
              case measure => simp [intOf]; omega
    · obtain rfl : t = gl.length := by omega
      have HR2 := Lib.hid (show kk = true from by
        rw [← HRp.out, List.drop_length]; rfl)
      clear HRp
      go_wp2_with fail
      go_ret
      rw [HR2.out]
      exact ⟨rfl, bthen HB2.out HBr.out⟩
end
end Go.Proofs.YtacdbnhnhdlmpaaGreatDoor.W
end
section
namespace Go.Proofs.YtacdbnhnhdlmpaaGreatDoor.W
open Go.RowKit
section
variable {B R Q : Nat} {S : Tr} {sv fv fa : Value} {w0 w : World} {K : Nat → List Nat} {d : Nat → Nat} {X : List FX} {foc : Int} {l : List Ob}
theorem ck4 (D : DcOk S K d) {i : Nat} {n : Nd} (hi : S.at i = some n) (hk : kindN n = 4) {u : Int → Option Bool} (hu : u (S.hd i) = none) :
    ((attV n sChecked).isSome && radioP u (atH S) (S.hd i) ((grp S K d i n).map S.hd) false) = chkd (gH S K d) (rdH S) (atH S) u (S.hd i) := by
  have ha := atH_hd D hi
  unfold chkd
  rw [hu]
  simp only []
  rw [gH_hd D hi, rdH_hd D hi, hk]
  cases e : (attV n sChecked).isSome with
  | false => rw [e] at ha; rw [ha, if_neg (fun q => by cases q.2)]; rfl
  | true =>
    rw [e] at ha
    rw [ha, if_pos ⟨rfl, rfl⟩, Bool.true_and]
    exact radio_same (List.mem_map_of_mem (grp_self D hi hk)) (map_nd D (grp_nd D i n) (grp_live D hi)) hu ha
theorem ck3 (D : DcOk S K d) {i : Nat} {n : Nd} (hi : S.at i = some n) (hk : kindN n = 3) {u : Int → Option Bool} (hu : u (S.hd i) = none) :
    (attV n sChecked).isSome = chkd (gH S K d) (rdH S) (atH S) u (S.hd i) := by
  unfold chkd
  rw [hu]
  simp only []
  rw [rdH_hd D hi, hk, if_neg (fun q => by cases q.1), atH_hd D hi]
theorem ckU {u : Int → Option Bool} {hd : Int} {b : Bool} (hu : u hd = some b) : b = chkd (gH S K d) (rdH S) (atH S) u hd := by
  unfold chkd
  rw [hu]
def isCk (n : Nd) : Bool := kindN n == 3 || kindN n == 4
set_option maxRecDepth 100000 in
set_option maxHeartbeats 8000000 in
theorem checked_any (D : DcOk S K d) (h : All B w0 (fsL Q fa foc X ++ l) w) (hO : trO R S sv fv ∈ l) (i : Nat) (n : Nd) (hi : S.at i = some n) (hl : X.length ≤ 100000) :
    Calls Tryz.prog 34 #[.pointer (some ⟨Q, 0, none⟩), .pointer (some ⟨R, 0, none⟩), .int .i64 (S.hd i)] w fun e w' => e = .returned (.tuple #[.bool (if isCk n = true then chkd (gH S K d) (rdH S) (atH S) (uX X) (S.hd i) else false), .int .i64 (if isCk n = true then 0 else 8)]) ∧ Below w.heap.size w w' := by
  have hT : TAt 0 R S sv fv w := h.P _ (List.mem_append_right _ hO)
  have HKi := Lib.hid (kind_any hT D.lk i n hi (D.al i n hi))
  have HHa := Lib.hid (fun (wx : World) (hb : Below w.heap.size w wx) => has_any (hT.below hb) D.lk i n hi (D.al i n hi) sChecked)
  have HRa := Lib.hid (fun (wx : World) (hb : Below w.heap.size w wx) => radio_any D (h.still hb) hO i n hi hl)
  have HFd := Lib.hid (fun (wx : World) (hb : Below w.heap.size w wx) => find_any (h.still hb) (S.hd i) (by omega))
  have hcase : (fatO fa (fixX X (S.hd i)) = none ∧ uX X (S.hd i) = none) ∨ ∃ g j tc ch, fatO fa (fixX X (S.hd i)) = some ⟨g, j, none⟩ ∧ w.cell? ⟨g, j + 3, none⟩ = some (.bool tc) ∧ w.cell? ⟨g, j + 4, none⟩ = some (.bool ch) ∧ uX X (S.hd i) = if tc = true then some ch else none := by
    cases hf : fixX X (S.hd i) with
    | none => exact .inl ⟨rfl, uX_none hf⟩
    | some j =>
      obtain ⟨g, cap, e1, e2, e3⟩ := get_cell h hf
      exact .inr ⟨g, j * 9, (getX X (S.hd i)).touched, (getX X (S.hd i)).checked, hf ▸ e2, (e3 3 (by omega)).1, (e3 4 (by omega)).1, rfl⟩
  have hc4 := fun (hk : kindN n = 4) (hu : uX X (S.hd i) = none) => ck4 D hi hk hu
  have hc3 := fun (hk : kindN n = 3) (hu : uX X (S.hd i) = none) => ck3 D hi hk hu
  have hcU := fun (b : Bool) (hu : uX X (S.hd i) = some b) => ckU (S := S) (K := K) (d := d) hu
  unfold isCk
  generalize kindN n = kx at *
  obtain ⟨r0, hr0⟩ : ∃ r0, chkd (gH S K d) (rdH S) (atH S) (uX X) (S.hd i) = r0 := ⟨_, rfl⟩
  rw [hr0] at hc4 hc3 hcU ⊢
  generalize ((attV n sChecked).isSome && radioP (uX X) (atH S) (S.hd i) ((grp S K d i n).map S.hd) false) = rp at *
  generalize (attV n sChecked).isSome = at1 at *
  generalize uX X (S.hd i) = ui at *
  generalize S.hd i = hd at *
  clear h hT hO hi hr0 hl
  by_cases h34 : kx = 3 ∨ kx = 4
  · have eb : (kx == 3 || kx == 4) = true := by simpa using h34
    rw [eb, if_pos rfl, if_pos rfl]
    clear eb
    have g1 : ((kx : Int) != 3 && (kx : Int) != 4) = false := by rcases h34 with e | e <;> simp [e]
    have main : (fatO fa (fixX X hd) = none ∧ ui = none) ∨ (∃ g j ch, fatO fa (fixX X hd) = some ⟨g, j, none⟩ ∧ w.cell? ⟨g, j + 3, none⟩ = some (.bool false) ∧ w.cell? ⟨g, j + 4, none⟩ = some (.bool ch) ∧ ui = none) ∨ ∃ g j ch, fatO fa (fixX X hd) = some ⟨g, j, none⟩ ∧ w.cell? ⟨g, j + 3, none⟩ = some (.bool true) ∧ w.cell? ⟨g, j + 4, none⟩ = some (.bool ch) ∧ ui = some ch := by
      rcases hcase with h | ⟨g, j, tc, ch, h1, h2, h3, h4⟩
      · exact .inl h
      · cases tc with
        | false => exact .inr (.inl ⟨g, j, ch, h1, h2, h3, by simpa using h4⟩)
        | true => exact .inr (.inr ⟨g, j, ch, h1, h2, h3, by simpa using h4⟩)
    clear hcase
    rcases main with ⟨e0, eu⟩ | ⟨g, j, ch, e0, c3, c4, eu⟩ | ⟨g, j, ch, e0, c3, c4, eu⟩
    · have HC4 := Lib.hid (fun hk => hc4 hk eu)
      have HC3 := Lib.hid (fun hk => hc3 hk eu)
      rw [e0] at HFd
      clear hc4 hc3 hcU e0 eu
      rcases h34 with rfl | rfl
      · go_enter Tryz.func34, Tryz.ntmps34
        go_wp2_with fail
        refine HKi.out.mono ?_
        rintro e w1 ⟨rfl, hb1⟩
        go_wp2_with fail
        refine (HFd.out _ hb1).mono ?_
        rintro e w2 ⟨rfl, rfl⟩
        go_wp2_with fail
        refine (HHa.out _ hb1).mono ?_
        rintro e w3 ⟨rfl, hb3⟩
        go_wp2_with fail
        go_ret2
        rw [HC3.out (by trivial)]
        exact ⟨rfl, bthen hb1 hb3⟩
      · go_enter Tryz.func34, Tryz.ntmps34
        go_wp2_with fail
        refine HKi.out.mono ?_
        rintro e w1 ⟨rfl, hb1⟩
        go_wp2_with fail
        refine (HFd.out _ hb1).mono ?_
        rintro e w2 ⟨rfl, rfl⟩
        go_wp2_with fail
        refine (HRa.out _ hb1).mono ?_
        rintro e w3 ⟨rfl, hb3⟩
        go_wp2_with fail
        go_ret2
        rw [HC4.out (by trivial)]
        exact ⟨rfl, bthen hb1 hb3⟩
    · have HC4 := Lib.hid (fun hk => hc4 hk eu)
      have HC3 := Lib.hid (fun hk => hc3 hk eu)
      rw [e0] at HFd
      clear hc4 hc3 hcU e0 eu
      rcases h34 with rfl | rfl
      · go_enter Tryz.func34, Tryz.ntmps34
        go_wp2_with fail
        refine HKi.out.mono ?_
        rintro e w1 ⟨rfl, hb1⟩
        have c3 := cell_keep hb1 c3
        have c4 := cell_keep hb1 c4
        go_wp2_with fail
        refine (HFd.out _ hb1).mono ?_
        rintro e w2 ⟨rfl, rfl⟩
        go_wp2_with fail
        refine (HHa.out _ hb1).mono ?_
        rintro e w3 ⟨rfl, hb3⟩
        go_wp2_with fail
        go_ret2
        rw [HC3.out (by trivial)]
        exact ⟨rfl, bthen hb1 hb3⟩
      · go_enter Tryz.func34, Tryz.ntmps34
        go_wp2_with fail
        refine HKi.out.mono ?_
        rintro e w1 ⟨rfl, hb1⟩
        have c3 := cell_keep hb1 c3
        have c4 := cell_keep hb1 c4
        go_wp2_with fail
        refine (HFd.out _ hb1).mono ?_
        rintro e w2 ⟨rfl, rfl⟩
        go_wp2_with fail
        refine (HRa.out _ hb1).mono ?_
        rintro e w3 ⟨rfl, hb3⟩
        go_wp2_with fail
        go_ret2
        rw [HC4.out (by trivial)]
        exact ⟨rfl, bthen hb1 hb3⟩
    · have HCU := Lib.hid (hcU ch eu)
      rw [e0] at HFd
      clear hc4 hc3 hcU e0 eu
      have e3 : ((kx : Int) != 3) = true ∨ ((kx : Int) != 3) = false := by cases (kx : Int) != 3 <;> simp
      rcases h34 with rfl | rfl
      all_goals
        go_enter Tryz.func34, Tryz.ntmps34
        go_wp2_with fail
        refine HKi.out.mono ?_
        rintro e w1 ⟨rfl, hb1⟩
        have c3 := cell_keep hb1 c3
        have c4 := cell_keep hb1 c4
        go_wp2_with fail
        refine (HFd.out _ hb1).mono ?_
        rintro e w2 ⟨rfl, rfl⟩
        go_wp2_with fail
        go_ret2
        rw [HCU.out]
        exact ⟨rfl, hb1⟩
  · have eb : (kx == 3 || kx == 4) = false := by simp; omega
    rw [eb, if_neg (by simp), if_neg (by simp)]
    clear eb
    have e3 : ((kx : Int) != 3) = true := by simp; omega
    have e4 : ((kx : Int) != 4) = true := by simp; omega
    clear hcase hc4 hc3 hcU h34
    go_enter Tryz.func34, Tryz.ntmps34
    go_wp2_with fail
    refine HKi.out.mono ?_
    rintro e w1 ⟨rfl, hb1⟩
    go_wp2_with fail
    go_ret2
    exact ⟨rfl, hb1⟩
set_option maxRecDepth 100000 in
set_option maxHeartbeats 8000000 in
theorem setChecked_yes (D : DcOk S K d) (h : All B w0 (fsL Q fa foc X ++ l) w) (hO : trO R S sv fv ∈ l) (i : Nat) (n : Nd) (hi : S.at i = some n) (hk : isCk n = true) (on : Bool) (hl : X.length ≤ 90000) :
    Calls Tryz.prog 29 #[.pointer (some ⟨Q, 0, none⟩), .pointer (some ⟨R, 0, none⟩), .int .i64 (S.hd i), .bool on] w fun e w' => e = .returned (.int .i64 0) ∧ ∃ fa', All B w0 (fsL Q fa' foc (setX (gH S K d) (rdH S) X (S.hd i) on) ++ l) w' := by
  have hT : TAt 0 R S sv fv w := h.P _ (List.mem_append_right _ hO)
  have HKi := Lib.hid (kind_any hT D.lk i n hi (D.al i n hi))
  have HTo := Lib.hid (fun (wx : World) (hb : Below w.heap.size w wx) => touch_any (h.still hb) (S.hd i) on (by omega))
  have HGr := Lib.hid (fun (fa2 : Value) (X2 : List FX) (wx : World) (hA : All B w0 (fsL Q fa2 foc X2 ++ l) wx) => group_any D (show TAt 0 R S sv fv wx from hA.P _ (List.mem_append_right _ hO)) i n hi)
  obtain ⟨kk, hkk⟩ : ∃ kk, setX (gH S K d) (rdH S) X (S.hd i) on = kk := ⟨_, rfl⟩
  rw [hkk]
  unfold setX at hkk
  rw [gH_hd D hi, rdH_hd D hi] at hkk
  have hgl := grp_len D i n
  have hx1 := touX_len X (S.hd i) on
  unfold isCk at hk
  generalize kindN n = kx at *
  simp only [Bool.or_eq_true, beq_iff_eq] at hk
  generalize grp S K d i n = gl at *
  generalize hhd : S.hd i = hd at *
  have HKK := Lib.hid hkk
  clear h hT hO hi hkk hhd
  rcases hk with rfl | rfl
  · have HR := Lib.hid (show touX X hd on = kk from by rw [← HKK.out, if_neg (fun q => by cases q.1)])
    clear HKK
    go_enter Tryz.func29, Tryz.ntmps29
    go_wp2_with fail
    refine HKi.out.mono ?_
    rintro e w1 ⟨rfl, hb1⟩
    go_wp2_with fail
    refine (HTo.out _ hb1).mono ?_
    rintro e w2 ⟨rfl, fa2, hA2⟩
    have HA2 := Lib.hid hA2
    clear hA2
    go_wp2_with fail
    go_ret
    rw [← HR.out]
    exact ⟨rfl, _, HA2.out⟩
  · cases on with
    | false =>
      have HR := Lib.hid (show touX X hd false = kk from by rw [← HKK.out, if_neg (fun q => by cases q.2)])
      clear HKK
      go_enter Tryz.func29, Tryz.ntmps29
      go_wp2_with fail
      refine HKi.out.mono ?_
      rintro e w1 ⟨rfl, hb1⟩
      go_wp2_with fail
      refine (HTo.out _ hb1).mono ?_
      rintro e w2 ⟨rfl, fa2, hA2⟩
      have HA2 := Lib.hid hA2
      clear hA2
      go_wp2_with fail
      go_ret
      rw [← HR.out]
      exact ⟨rfl, _, HA2.out⟩
    | true =>
      have HR := Lib.hid (show touL (touX X hd true) ((gl.map S.hd).filter (fun x => x != hd)) = kk from by rw [← HKK.out, if_pos ⟨rfl, rfl⟩])
      clear HKK
      go_enter Tryz.func29, Tryz.ntmps29
      go_wp2_with fail
      refine HKi.out.mono ?_
      rintro e w1 ⟨rfl, hb1⟩
      go_wp2_with fail
      refine (HTo.out _ hb1).mono ?_
      rintro e w2 ⟨rfl, fa2, hA2⟩
      have HA2 := Lib.hid hA2
      have HG2 := Lib.hid (HGr.out _ _ _ hA2)
      clear hA2 HTo HKi hb1 HGr
      go_wp2_with fail
      refine HG2.out.mono ?_
      rintro e w3 ⟨v, rfl, hv, hb3⟩
      obtain ⟨va, vc, rfl⟩ := own_shapeB hv
      have hA3 := (HA2.out.new (o := sl 3 1 (.slice va gl.length vc) gl.length (hdC S gl)) (own_low hv (Nat.zero_le _)) hb3 (fun k hk => (hv.lt k hk).1)).perm (List.perm_middle (l₁ := fsL Q fa2 foc (touX X hd true)) (l₂ := l)).symm
      have HA3 := Lib.hid hA3
      clear hv hb3 hA3 HA2 HG2
      go_wp2_with fail
      go_loopw [34] (fun iv wr => ∃ (t : Nat) (fa3 : Value) (X3 : List FX), t ≤ gl.length ∧ iv = .int .i64 (t : Int) ∧ X3 = touL (touX X hd true) (((gl.take t).map S.hd).filter (fun x => x != hd)) ∧ X3.length ≤ X.length + 1 + t ∧ All B w0 (fsL Q fa3 foc X3 ++ sl 3 1 (.slice va gl.length vc) gl.length (hdC S gl) :: l) wr) (fun iv _ => gl.length - (intOf iv).toNat)
      case atStart => exact ⟨0, _, _, by omega, rfl, by simp [touL], by omega, HA3.out⟩
      case round =>
        obtain ⟨t, fa3, X3, ht, rfl, hX3, hl3, hA⟩ := hrel
        have HX3 := Lib.hid hX3
        have HA := Lib.hid hA
        clear hX3
        by_cases htl : t < gl.length
        · obtain ⟨k, hk⟩ : ∃ k, gl[t]? = some k := ⟨_, List.getElem?_eq_getElem htl⟩
          have hov : Own wr 3 1 (.slice va gl.length vc) gl.length (hdC S gl) := hA.P (sl 3 1 (.slice va gl.length vc) gl.length (hdC S gl)) (by simp)
          obtain ⟨vg, e, _, hvc, ck⟩ := hdC_get (B := 0) hov hk
          subst e
          have htk : gl.take (t + 1) = gl.take t ++ [k] := by rw [List.take_add_one, hk]; rfl
          have hfs := filter_snoc (fun x => x != hd) ((gl.take t).map S.hd) (S.hd k)
          rw [show (gl.take t).map S.hd ++ [S.hd k] = (gl.take (t + 1)).map S.hd by rw [htk, List.map_append]; rfl] at hfs
          have HFs := Lib.hid hfs
          have HT3 := Lib.hid (touch_any hA (S.hd k) false (by omega))
          have hx4 := touX_len X3 (S.hd k) false
          generalize S.hd k = hk' at *
          clear hk hov htk hfs hA
          by_cases hx : hk' = hd
          · have e0 : (hk' != hd) = false := by simpa using hx
            have HS := Lib.hid (show ((gl.take (t + 1)).map S.hd).filter (fun x => x != hd) = ((gl.take t).map S.hd).filter (fun x => x != hd) from by rw [HFs.out, e0]; rfl)
            clear hx hx4
            go_wp2_with fail
            go_roundw
            case rel => exact ⟨t + 1, _, X3, by omega, by go_num, by rw [HS.out]; exact HX3.out, by omega, HA.out⟩
            case measure => simp [intOf]; omega
          · have e0 : (hk' != hd) = true := by simpa using hx
            have HS := Lib.hid (show ((gl.take (t + 1)).map S.hd).filter (fun x => x != hd) = ((gl.take t).map S.hd).filter (fun x => x != hd) ++ [hk'] from by rw [HFs.out, e0]; rfl)
            clear hx
            go_wp2_with fail
            refine HT3.out.mono ?_
            rintro e w5 ⟨rfl, fa5, hA5⟩
            have HA5 := Lib.hid hA5
            clear hA5 HT3
            go_wp2_with fail
            go_roundw
            case rel => exact ⟨t + 1, fa5, touX X3 hk' false, by omega, by go_num, by rw [HS.out, touL_snoc, ← HX3.out], by omega, HA5.out⟩
            case measure => simp [intOf]; omega
        · obtain rfl : t = gl.length := by omega
          rw [List.take_length] at HX3
          clear hA
          go_wp2_with fail
          go_ret
          rw [← HR.out, ← HX3.out]
          exact ⟨rfl, fa3, HA.out.sub ((List.sublist_cons_self _ _).append_left _)⟩
end
end Go.Proofs.YtacdbnhnhdlmpaaGreatDoor.W
end
