/- Texts joined: DcD Dcm. -/
import Derived.Test.YtacdbnhnhdlmpaaGreatDoorFB26
import Derived.Test.YtacdbnhnhdlmpaaGreatDoorFB28
import Derived.Deep.Cut
set_option maxRecDepth 100000
set_option maxHeartbeats 40000000
set_option linter.unusedVariables false
set_option linter.unusedSimpArgs false
section
namespace Go.Proofs.YtacdbnhnhdlmpaaGreatDoor.W
open Go.RowKit
theorem nI_at {S S' : Tr} {x : Nat} {n : Nd} (h : nI S' x = nI S x) (hn : S'.at x = some n) : ∃ m, S.at x = some m ∧ m.kind = n.kind ∧ m.name = n.name ∧ m.attrs = n.attrs ∧ m.data = n.data := by
  have e : nI S' x = some (n.kind, n.name, n.attrs, n.data) := by unfold nI; rw [hn]; rfl
  rw [h] at e
  exact nI_some e
theorem nI_to {S S' : Tr} {x : Nat} {n : Nd} (h : nI S' x = nI S x) (hn : S.at x = some n) : ∃ m, S'.at x = some m ∧ m.kind = n.kind ∧ m.name = n.name ∧ m.attrs = n.attrs ∧ m.data = n.data := nI_at h.symm hn
theorem nI_is {S : Tr} {x : Nat} {n : Nd} {a : Int} {b : List UInt8} {c : List Atr} {e : List UInt8} (h : nI S x = some (a, b, c, e)) (hn : S.at x = some n) : n.kind = a ∧ n.name = b ∧ n.attrs = c ∧ n.data = e := by
  obtain ⟨m, hm, r⟩ := nI_some h
  rw [hn] at hm
  cases hm
  exact r
theorem kindN_eq {n m : Nd} (h1 : m.kind = n.kind) (h2 : m.name = n.name) (h3 : m.attrs = n.attrs) : kindN m = kindN n := by
  unfold kindN attV
  rw [h1, h2, h3]
structure DcI (hdf : Nat → Int) (N : Nat) (S : Tr) (K : Nat → List Nat) (d : Nat → Nat) (L : List Nat) : Prop where
  ok : DcOk S K d
  len : S.slots.length ≤ N
  dep : ∀ x, d x ≤ S.slots.length + 1
  hd : ∀ x, S.hd x = hdf x
  b1 : ∃ n, S.at 1 = some n ∧ n.kind = 2
  el : ∀ x ∈ L, ∃ n, S.at x = some n ∧ n.kind = 2
  oth : ∀ x n, S.at x = some n → x ∉ L → n.attrs = [] ∧ kindN n = 0
  nd : L.Nodup
section
variable {hdf : Nat → Int} {N : Nat} {S S1 S2 : Tr} {K : Nat → List Nat} {d : Nat → Nat} {L : List Nat} {s p : Nat} {q : Int × List UInt8 × List Atr × List UInt8}
theorem dci_nI (g : GMk 1 S K d s S1 q) (i : GIn 1 S1 K (dAdd d s) p s S2) (x : Nat) : nI S2 x = if x = s then some q else nI S x := by rw [i.nI, g.nI]
theorem DcI.parent (D : DcI hdf N S K d L) (hp : p = 1 ∨ p ∈ L) : ∃ n, S.at p = some n ∧ n.kind = 2 := by
  rcases hp with rfl | hp
  · exact D.b1
  · exact D.el p hp
theorem DcI.ne (D : DcI hdf N S K d L) (hs : S.slots.length = s) (hp : p = 1 ∨ p ∈ L) : p ≠ s := by
  obtain ⟨n, h, _⟩ := D.parent hp
  have := at_lt h
  omega
theorem dci_core (D : DcI hdf N S K d L) (hs : S.slots.length = s) (hN : N + 1 ≤ 100) (hp : p = 1 ∨ p ∈ L) (g : GMk 1 S K d s S1 q) (i : GIn 1 S1 K (dAdd d s) p s S2) :
    DcOk S2 (KIn K p s) (KD d p s) ∧ S2.slots.length = s + 1 ∧ (∀ x, KD d p s x ≤ S2.slots.length + 1) ∧ (∀ x, S2.hd x = hdf x) ∧ (∃ n, S2.at 1 = some n ∧ n.kind = 2) ∧ ∀ x ∈ L, ∃ n, S2.at x = some n ∧ n.kind = 2 := by
  have hl : S2.slots.length = s + 1 := by rw [i.len, g.len]
  have hne := D.ne hs hp
  have old : ∀ x n, S.at x = some n → n.kind = 2 → ∃ n', S2.at x = some n' ∧ n'.kind = 2 := fun x n hx hk => by
    have hlt := at_lt hx
    have e : nI S2 x = nI S x := by rw [dci_nI g i, if_neg (by omega)]
    obtain ⟨m, hm, h1, _⟩ := nI_to e hx
    exact ⟨m, hm, h1.trans hk⟩
  refine ⟨dc_grow D.ok hs (by have := D.len; omega) g i, hl, fun x => ?_, fun x => (i.hd x).trans ((g.hd x).trans (D.hd x)), ?_, fun x hx => ?_⟩
  · rw [hl]
    exact kd_le (fun y => by rw [← hs]; exact D.dep y) hne x
  · obtain ⟨n, h1, h2⟩ := D.b1
    exact old 1 n h1 h2
  · obtain ⟨n, h1, h2⟩ := D.el x hx
    exact old x n h1 h2
theorem DcI.elem {nm : List UInt8} {al : List Atr} (D : DcI hdf N S K d L) (hs : S.slots.length = s) (hN : N + 1 ≤ 100) (hp : p = 1 ∨ p ∈ L) (g : GMk 1 S K d s S1 (2, nm, al, [])) (i : GIn 1 S1 K (dAdd d s) p s S2) : DcI hdf (N + 1) S2 (KIn K p s) (KD d p s) (L ++ [s]) := by
  obtain ⟨h1, h2, h3, h4, h5, h6⟩ := dci_core D hs hN hp g i
  refine ⟨h1, by have := D.len; omega, h3, h4, h5, fun x hx => ?_, fun x n hx hm => ?_, ?_⟩
  · rcases List.mem_append.1 hx with hx | hx
    · exact h6 x hx
    · rw [List.mem_singleton] at hx
      subst hx
      obtain ⟨n, e1, e2, _⟩ := nI_some ((dci_nI g i x).trans (if_pos rfl))
      exact ⟨n, e1, e2⟩
  · have hne : x ≠ s := fun e => hm (by rw [e]; simp)
    obtain ⟨m, e1, e2, e3, e4, _⟩ := nI_at ((dci_nI g i x).trans (if_neg hne)) hx
    have := D.oth x m e1 (fun q => hm (List.mem_append_left _ q))
    rw [← e4, ← kindN_eq e2 e3 e4]
    exact this
  · refine List.nodup_append.2 ⟨D.nd, by simp, fun a ha b hb e => ?_⟩
    rw [List.mem_singleton] at hb
    obtain ⟨n, e1, _⟩ := D.el a ha
    have := at_lt e1
    omega
theorem DcI.text {da : List UInt8} (D : DcI hdf N S K d L) (hs : S.slots.length = s) (hN : N + 1 ≤ 100) (hp : p = 1 ∨ p ∈ L) (g : GMk 1 S K d s S1 (3, [], [], da)) (i : GIn 1 S1 K (dAdd d s) p s S2) : DcI hdf (N + 1) S2 (KIn K p s) (KD d p s) L := by
  obtain ⟨h1, h2, h3, h4, h5, h6⟩ := dci_core D hs hN hp g i
  refine ⟨h1, by have := D.len; omega, h3, h4, h5, h6, fun x n hx hm => ?_, D.nd⟩
  by_cases hne : x = s
  · obtain ⟨e1, e2, e3, _⟩ := nI_is ((dci_nI g i x).trans (if_pos hne)) hx
    refine ⟨e3, ?_⟩
    unfold kindN kindF
    rw [e2]
    rfl
  · obtain ⟨m, e1, e2, e3, e4, _⟩ := nI_at ((dci_nI g i x).trans (if_neg hne)) hx
    have := D.oth x m e1 hm
    rw [← e4, ← kindN_eq e2 e3 e4]
    exact this
theorem dc_new (b s : Int) : DcOk (newT b s) (fun _ => []) (fun _ => 1) := by
  refine ⟨newT_ok b s, rfl, by show 1 ≤ 100; omega, fun x hx h0 => ?_⟩
  unfold Tr.at newT at hx
  cases x with
  | zero => exact absurd rfl h0
  | succ x => simp at hx
theorem DcI.start {b t : Int} (g : GMk 1 (newT b t) (fun _ => []) (fun _ => 1) 1 S1 (2, sBody, [], [])) (i : GIn 1 S1 (fun _ => []) (dAdd (fun _ => 1) 1) 0 1 S2) : DcI (newT b t).hd 2 S2 (KIn (fun _ => []) 0 1) (KD (fun _ => 1) 0 1) [] := by
  have hl : S2.slots.length = 2 := by rw [i.len, g.len]
  refine ⟨dc_grow (dc_new b t) rfl (by omega) g i, by omega, fun x => ?_, fun x => (i.hd x).trans (g.hd x), ?_, fun x hx => (by cases hx), fun x n hx _ => ?_, List.nodup_nil⟩
  · rw [hl]
    exact kd_le (s := 1) (fun _ => by omega) (by omega) x
  · obtain ⟨n, e1, e2, _⟩ := nI_some ((dci_nI g i 1).trans (if_pos rfl))
    exact ⟨n, e1, e2⟩
  · by_cases h1 : x = 1
    · obtain ⟨e1, e2, e3, _⟩ := nI_is ((dci_nI g i x).trans (if_pos h1)) hx
      refine ⟨e3, ?_⟩
      unfold kindN kindF
      rw [e2]
      rfl
    · obtain ⟨m, e1, e2, e3, e4, _⟩ := nI_at ((dci_nI g i x).trans (if_neg h1)) hx
      have h0 : x = 0 := by
        unfold Tr.at newT at e1
        cases x with
        | zero => rfl
        | succ x => simp at e1
      subst h0
      have e5 : m = newN 1 [] := by
        have : (newT b t).at 0 = some (newN 1 []) := rfl
        rw [this] at e1
        exact (Option.some.inj e1).symm
      rw [← e4, ← kindN_eq e2 e3 e4, e5]
      exact ⟨rfl, rfl⟩
end
theorem hdC_eq {S S' : Tr} (h : ∀ x, S'.hd x = S.hd x) (L : List Nat) : hdC S' L = hdC S L := by unfold hdC; simp only [h]
theorem DcI.up {hdf : Nat → Int} {N N' : Nat} {S : Tr} {K : Nat → List Nat} {d : Nat → Nat} {L : List Nat} (D : DcI hdf N S K d L) (h : N ≤ N') : DcI hdf N' S K d L := ⟨D.ok, Nat.le_trans D.len h, D.dep, D.hd, D.b1, D.el, D.oth, D.nd⟩
set_option maxRecDepth 100000 in
set_option maxHeartbeats 40000000 in
theorem document_any {B : Nat} {w0 w : World} {l : List Ob} (h : All B w0 l w) (hL : ∀ wx, Below B w0 wx → Laid wx) (A : Option Addr) (n c : Nat) (f : Nat → PtF) (hi : ∀ wx, Below B w0 wx → InPt wx A n f) (hn : n ≤ 25) (hf : ∀ j, (f j).In) :
    Calls Tryz.prog 27 #[.slice A n c] w fun e w' => ∃ R S sv fv K d L v, e = .returned (.tuple #[.pointer (some ⟨R, 0, none⟩), v]) ∧ All B w0 (trO R S sv fv :: sl 3 1 v L.length (hdC S L) :: l) w' ∧ DcI (newT 3 4).hd (2 + 2 * n) S K d L ∧ L.length = n := by
  have HNew := Lib.hid (tree_newA h 3 4)
  have hnil : ∀ wx, Own wx 85 2 (.slice none 0 0) ([] : List Atr).length (attrC []) := fun wx => World.ownsRow_nil _ _ _ _
  have HL := Lib.hid hL
  have HI := Lib.hid hi
  have HF := Lib.hid hf
  clear h hL hi hf
  have D0 := dc_new 3 4
  go_enter Tryz.func27, Tryz.ntmps27
  go_wp2_with fail
  refine HNew.out.mono ?_
  rintro e w1 ⟨R, sv0, rfl, hA1⟩
  have HM1 := Lib.hid (make_el hA1 (HL.out _ hA1.below) D0.ok D0.fr (by have := D0.len; omega) 1 rfl sBody (by decide) (.slice none 0 0) [] (hnil w1) (by simp) (fun a ha => by cases ha) el_body)
  clear hA1 D0
  go_wp2_with fail
  refine HM1.out.mono ?_
  rintro e w2 ⟨S1, sv1, fv1, rfl, hA2, g1⟩
  have g1' : GMk 1 (newT 3 4) (fun _ => []) (fun _ => 1) 1 S1 (2, sBody, [], []) := g1
  obtain ⟨p0, hp0, hk0, _⟩ := nI_some ((g1.nI 0).trans (by rw [if_neg (by omega)]; rfl))
  obtain ⟨p1, hp1, hk1, _⟩ := nI_some ((g1.nI 1).trans (if_pos (by omega)))
  have HI1 := Lib.hid (ins_all hA2 g1.ok 0 1 p0 p1 hp0 hp1 g1.kid g1.det (by omega) (.inr ⟨hk0, hk1, rfl⟩) (by unfold dAdd; rw [if_neg (by omega)]; show 1 + 1 ≤ 128; omega))
  have c5 := (show TAt 0 R S1 sv1 fv1 w2 from hA2.head).blk.cell 5
  simp only [List.getElem?_cons_succ, List.getElem?_cons_zero] at c5
  rw [g1.root] at c5
  rw [g1.hd, g1.hd] at HI1
  have hr0 : (newT 3 4).root = (newT 3 4).hd 0 := rfl
  rw [hr0] at c5
  have G1 := Lib.hid g1'
  clear hA2 g1 g1' HM1 HNew hr0
  generalize hdf1 : (newT 3 4).hd 1 = hb at *
  generalize (newT 3 4).hd 0 = h0 at *
  go_wp2_with fail
  refine HI1.out.mono ?_
  rintro e w3 ⟨S2, sv2, fv2, v2, rfl, hA3, g2⟩
  have HD2 := Lib.hid (DcI.start G1.out g2)
  have HA3 := Lib.hid hA3
  have HHb := Lib.hid hdf1
  clear hA3 g2 HI1 c5 hp0 hp1 hdf1
  go_wp2_with fail
  go_loopw [7, 33] (fun lw iv wr => ∃ (k : Nat) (S : Tr) (sv fv : Value) (K : Nat → List Nat) (d : Nat → Nat) (L : List Nat), k ≤ n ∧ iv = .int .i64 (k : Int) ∧ All B w0 (trO R S sv fv :: sl 3 1 lw L.length (hdC S L) :: l) wr ∧ DcI (newT 3 4).hd (2 + 2 * k) S K d L ∧ L.length = k) (fun _ iv _ => n - (intOf iv).toNat)
  case atStart => exact ⟨0, S2, sv2, fv2, _, _, [], by omega, rfl, (HA3.out.nil 3 1).perm (List.Perm.swap _ _ _), HD2.out, rfl⟩
  case round =>
    obtain ⟨k, S, sv, fv, K, d, L, hkn, rfl, hA, hD, hLl⟩ := hrel
    obtain ⟨la, lc, rfl⟩ := own_shape (show Own wr 3 1 _ L.length (hdC S L) from hA.tail.head)
    have HA := Lib.hid hA
    have HD := Lib.hid hD
    have HLl := Lib.hid hLl
    clear hD hLl
    by_cases hkl : k < n
    · obtain ⟨gp, off, rfl, hgp, hc⟩ := HI.out wr hA.below (by omega)
      obtain ⟨q0, q1, q2, q3⟩ := hc k hkl
      have HQ := Lib.hid (fun j (hj : j < n) => (hc j hj).1)
      have hpi := HF.out k
      have HPi := Lib.hid hpi
      obtain ⟨⟨pk, po, pn, pf⟩, hp⟩ : ∃ p, f k = p := ⟨_, rfl⟩
      have HPk := Lib.hid hp
      rw [hp] at q0 q1 q2 q3 HPi hpi
      simp only at q0 q1 q2 q3
      obtain ⟨hp1, hp2, hp3, hp4⟩ := hpi
      simp only at hp1 hp2 hp3 hp4
      obtain ⟨m, hm⟩ : ∃ m, pk % 10 = m := ⟨_, rfl⟩
      obtain ⟨a3, ha3⟩ : ∃ a3, pf % 3 = a3 := ⟨_, rfl⟩
      have hm10 : m < 10 := by omega
      have hmod : Int.tmod (pk : Int) 10 = (m : Int) := by rw [← hm]; exact tmod_nat pk 10
      have hmo3 : Int.tmod (pf : Int) 3 = (a3 : Int) := by rw [← ha3]; exact tmod_nat pf 3
      obtain ⟨ps, hps⟩ : ∃ ps, elP ⟨pk, po, pn, pf⟩ = ps := ⟨_, rfl⟩
      have hps2 := hps
      unfold elP at hps2
      simp only [hm, ha3] at hps2
      have hA0 := hA.alloc (.cells #[.string ⟨#[102, 111, 114, 109]⟩, .string ⟨#[100, 105, 118]⟩, .string ⟨#[105, 110, 112, 117, 116]⟩, .string ⟨#[116, 101, 120, 116, 97, 114, 101, 97]⟩, .string ⟨#[105, 110, 112, 117, 116]⟩, .string ⟨#[105, 110, 112, 117, 116]⟩, .string ⟨#[105, 110, 112, 117, 116]⟩, .string ⟨#[105, 110, 112, 117, 116]⟩, .string ⟨#[98, 117, 116, 116, 111, 110]⟩, .string ⟨#[97]⟩] 9)
      have hbe := (Below.refl wr.heap.size wr).alloc (Nat.le_refl _) (.cells #[.string ⟨#[102, 111, 114, 109]⟩, .string ⟨#[100, 105, 118]⟩, .string ⟨#[105, 110, 112, 117, 116]⟩, .string ⟨#[116, 101, 120, 116, 97, 114, 101, 97]⟩, .string ⟨#[105, 110, 112, 117, 116]⟩, .string ⟨#[105, 110, 112, 117, 116]⟩, .string ⟨#[105, 110, 112, 117, 116]⟩, .string ⟨#[105, 110, 112, 117, 116]⟩, .string ⟨#[98, 117, 116, 116, 111, 110]⟩, .string ⟨#[97]⟩] 9)
      have ke := Blk.new wr (elL.map strV) 9
      have he : (elL.map strV)[m]? = some (.string ⟨(elL.getD m []).toArray⟩) := by
        rw [List.getElem?_map, List.getD_eq_getElem?_getD, List.getElem?_eq_getElem (show m < elL.length from hm10)]
        rfl
      have ce : (wr.alloc (.cells #[.string ⟨#[102, 111, 114, 109]⟩, .string ⟨#[100, 105, 118]⟩, .string ⟨#[105, 110, 112, 117, 116]⟩, .string ⟨#[116, 101, 120, 116, 97, 114, 101, 97]⟩, .string ⟨#[105, 110, 112, 117, 116]⟩, .string ⟨#[105, 110, 112, 117, 116]⟩, .string ⟨#[105, 110, 112, 117, 116]⟩, .string ⟨#[105, 110, 112, 117, 116]⟩, .string ⟨#[98, 117, 116, 116, 111, 110]⟩, .string ⟨#[97]⟩] 9)).cell? ⟨wr.heap.size, m, none⟩ = some (.string ⟨(elL.getD m []).toArray⟩) := (ke.cell m).trans he
      have q0' := cell_keep hbe q0
      have q1' := cell_keep hbe q1
      have q2' := cell_keep hbe q2
      have q3' := cell_keep hbe q3
      have HA0 := Lib.hid hA0
      have HPs := Lib.hid hps
      have HPs2 := Lib.hid hps2
      have HQ2 := Lib.hid (fun j (hj : j < n) => cell_keep hbe (HQ.out j hj))
      have HM := Lib.hid hm
      have HBe := Lib.hid hbe
      clear hA hA0 hbe ke he hps hps2 hc hp hm ha3 HQ q0 q1 q2 q3
      have q0 := q0'
      have q1 := q1'
      have q2 := q2'
      have q3 := q3'
      clear q0' q1' q2' q3'
      go_upto_region 11 with fail
      generalize hw5 : wr.alloc (.cells #[.string ⟨#[102, 111, 114, 109]⟩, .string ⟨#[100, 105, 118]⟩, .string ⟨#[105, 110, 112, 117, 116]⟩, .string ⟨#[116, 101, 120, 116, 97, 114, 101, 97]⟩, .string ⟨#[105, 110, 112, 117, 116]⟩, .string ⟨#[105, 110, 112, 117, 116]⟩, .string ⟨#[105, 110, 112, 117, 116]⟩, .string ⟨#[105, 110, 112, 117, 116]⟩, .string ⟨#[98, 117, 116, 116, 111, 110]⟩, .string ⟨#[97]⟩] 9) = w5 at *
      clear hw5 ce
      obtain ⟨b1, hb1⟩ : ∃ b : Bool, decide (m = 9 ∧ a3 > 0) = b := ⟨_, rfl⟩
      have HB1 := Lib.hid hb1
      clear hb1
      go_cut [60] (fun cv wx => cv = .bool b1 ∧ wx = w5)
      case first =>
        by_cases hA9 : m = 9
        · have gA : ((m : Int) == 9) = true := by simp [hA9]
          by_cases hB3 : a3 > 0
          · have gB : decide (0 < a3) = true := by simp; omega
            have HR := Lib.hid (decide_eq_true (p := m = 9 ∧ a3 > 0) ⟨hA9, hB3⟩)
            clear hA9 hB3
            go_wp2_with fail
            go_meet
            exact ⟨by rw [← HB1.out, HR.out], rfl⟩
          · have gB : decide (0 < a3) = false := by simp; omega
            have HR := Lib.hid (decide_eq_false (p := m = 9 ∧ a3 > 0) (fun q => hB3 q.2))
            clear hA9 hB3
            go_wp2_with fail
            go_meet
            exact ⟨by rw [← HB1.out, HR.out], rfl⟩
        · have gA : ((m : Int) == 9) = false := by simp; omega
          have HR := Lib.hid (decide_eq_false (p := m = 9 ∧ a3 > 0) (fun q => hA9 q.1))
          clear hA9
          go_wp2_with fail
          go_meet
          exact ⟨by rw [← HB1.out, HR.out], rfl⟩
      case rest =>
      obtain ⟨rfl, hw⟩ := hcut
      rw [hw]
      clear hw
      go_upto_if 60 with fail
      go_cut [9] (fun nv wx => nv = .string ⟨ps.toArray⟩ ∧ wx = w5)
      case first =>
        cases b1 with
        | true =>
          have HN := Lib.hid (show ps = sSpan from by rw [← HPs2.out, if_pos (of_decide_eq_true HB1.out)])
          go_wp2_with fail
          go_meet
          exact ⟨by rw [HN.out]; rfl, rfl⟩
        | false =>
          have HN := Lib.hid (show ps = elL.getD m [] from by rw [← HPs2.out, if_neg (of_decide_eq_false HB1.out)])
          go_wp2_with fail
          go_meet
          exact ⟨by rw [HN.out, List.getD_eq_getElem?_getD], rfl⟩
      case rest =>
      obtain ⟨rfl, hw⟩ := hcut
      rw [hw]
      clear hw HB1 b1
      have HAt := Lib.hid (fun wx => pattrs_any wx ⟨pk, po, pn, pf⟩ HPi.out k (by omega))
      simp only at HAt
      go_wp2_with fail
      refine (HAt.out _).mono ?_
      rintro e w6 ⟨va, rfl, hva, hb6⟩
      obtain ⟨aa, ac, rfl⟩ := own_shapeB hva
      have hA6 := HA0.out.still hb6
      have hpn := elP_ok ⟨pk, po, pn, pf⟩
      rw [HPs.out] at hpn
      have hal7 := atL_len ⟨pk, po, pn, pf⟩ k
      have hal0 := atL_ok ⟨pk, po, pn, pf⟩ k
      have hnb := atL_names ⟨pk, po, pn, pf⟩ k
      have hDl := HD.out.len
      have HM6 := Lib.hid (make_el hA6 (HL.out _ hA6.below) HD.out.ok.ok HD.out.ok.fr (by omega) S.slots.length rfl ps (by omega) (.slice aa (atL ⟨pk, po, pn, pf⟩ k).length ac) (atL ⟨pk, po, pn, pf⟩ k) (own_low hva (Nat.zero_le _)) (by omega) (fun a ha => by
        have h1 := hal0 a ha
        have h2 := fix_len3 a.2
        exact ⟨by omega, by omega, by omega⟩) (by rw [hpn.1, hnb]; rfl))
      have q0 := cell_keep hb6 q0
      have q1 := cell_keep hb6 q1
      have HQ6 := Lib.hid (fun j (hj : j < n) => cell_keep hb6 (HQ2.out j hj))
      generalize atL ⟨pk, po, pn, pf⟩ k = al at *
      clear hva hb6 hA6 hpn hal7 hal0 hnb HAt HA0 HQ2 HPs HPs2 HPi q2 q3
      go_wp2_with fail
      refine HM6.out.mono ?_
      rintro e w7 ⟨S1, sv1, fv1, rfl, hA7, g1⟩
      have G1 := Lib.hid g1
      have HA7 := Lib.hid hA7
      obtain ⟨b2, hb2⟩ : ∃ b : Bool, decide (0 < k ∧ (f (po % k)).k % 10 < 2) = b := ⟨_, rfl⟩
      have HB2 := Lib.hid hb2
      have HQ7 := Lib.hid (fun j (hj : j < n) => (show w7.cell? ⟨gp, off + j * 4, none⟩ = some (.int .u8 ((f j).k : Int)) from by
        obtain ⟨b, off', e, _, hc'⟩ := HI.out w7 hA7.below (by omega)
        cases e
        exact (hc' j hj).1))
      have q1 : w7.cell? ⟨gp, off + k * 4 + 1, none⟩ = some (.int .u8 (po : Int)) := by
        obtain ⟨b, off', e, _, hc'⟩ := HI.out w7 hA7.below (by omega)
        cases e
        have := (hc' k hkl).2.1
        rw [HPk.out] at this
        exact this
      have q0 : w7.cell? ⟨gp, off + k * 4, none⟩ = some (.int .u8 (pk : Int)) := by
        obtain ⟨b, off', e, _, hc'⟩ := HI.out w7 hA7.below (by omega)
        cases e
        have := (hc' k hkl).1
        rw [HPk.out] at this
        exact this
      clear hb2 hA7 g1 HM6 HQ6
      go_upto_region 17 with fail
      go_cut [94] (fun cv wx => cv = .bool b2 ∧ wx = w7)
      case first =>
        by_cases hk0 : 0 < k
        · obtain ⟨j, hj⟩ : ∃ j, po % k = j := ⟨_, rfl⟩
          have hjk : j < k := by rw [← hj]; exact Nat.mod_lt _ hk0
          have hmk : Int.tmod (po : Int) (k : Int) = (j : Int) := by rw [← hj]; exact tmod_nat po k
          have qj := HQ7.out j (by omega)
          obtain ⟨mj, hmj⟩ : ∃ mj, (f j).k % 10 = mj := ⟨_, rfl⟩
          obtain ⟨fj, hfj⟩ : ∃ fj, (f j).k = fj := ⟨_, rfl⟩
          have hmo : Int.tmod (fj : Int) 10 = (mj : Int) := by rw [← hmj, hfj]; exact tmod_nat fj 10
          rw [hfj] at qj
          have gA : decide (0 < k) = true := by simpa using hk0
          have gA2 : decide ((0 : Int) < (k : Int)) = true := by simp; omega
          have hk1 : ¬ (k : Int) = 0 := by omega
          have hjn : (j : Int) < (n : Int) := by omega
          by_cases hm2 : mj < 2
          · have gB : decide (mj < 2) = true := by simpa using hm2
            have gB2 : decide ((mj : Int) < 2) = true := by simp; omega
            have HR := Lib.hid (decide_eq_true (p := 0 < k ∧ (f (po % k)).k % 10 < 2) ⟨hk0, by rw [hj, hmj]; exact hm2⟩)
            clear hm2 hj hmj hfj
            go_wp2_with fail
            go_meet
            exact ⟨by rw [← HB2.out, HR.out], rfl⟩
          · have gB : decide (mj < 2) = false := by simpa using hm2
            have gB2 : decide ((mj : Int) < 2) = false := by simp; omega
            have HR := Lib.hid (decide_eq_false (p := 0 < k ∧ (f (po % k)).k % 10 < 2) (fun q => hm2 (by have := q.2; rw [hj, hmj] at this; exact this)))
            clear hm2 hj hmj hfj
            go_wp2_with fail
            go_meet
            exact ⟨by rw [← HB2.out, HR.out], rfl⟩
        · have gA : decide (0 < k) = false := by simpa using hk0
          have gA2 : decide ((0 : Int) < (k : Int)) = false := by simp; omega
          have HR := Lib.hid (decide_eq_false (p := 0 < k ∧ (f (po % k)).k % 10 < 2) (fun q => hk0 q.1))
          clear hk0
          go_wp2_with fail
          go_meet
          exact ⟨by rw [← HB2.out, HR.out], rfl⟩
      case rest =>
      obtain ⟨rfl, hw⟩ := hcut
      rw [hw]
      clear hw
      go_upto_if 94 with fail
      go_cut [12] (fun iv wx => ∃ q, (q = 1 ∨ q ∈ L) ∧ iv = .int .i64 (S.hd q) ∧ wx = w7)
      case first =>
        cases b2 with
        | true =>
          obtain ⟨hk0, _⟩ := of_decide_eq_true HB2.out
          obtain ⟨j, hj⟩ : ∃ j, po % k = j := ⟨_, rfl⟩
          have hjk : j < k := by rw [← hj]; exact Nat.mod_lt _ hk0
          have hmk : Int.tmod (po : Int) (k : Int) = (j : Int) := by rw [← hj]; exact tmod_nat po k
          have hk1 : ¬ (k : Int) = 0 := by omega
          have hjL : j < L.length := by rw [HLl.out]; exact hjk
          obtain ⟨q, hq⟩ : ∃ q, L[j]? = some q := ⟨_, List.getElem?_eq_getElem hjL⟩
          have hol : Own w7 3 1 (.slice la L.length lc) L.length (hdC S L) := HA7.out.tail.head
          obtain ⟨vg, e, _, hvc, ck⟩ := hdC_get (B := 0) hol hq
          subst e
          have hjL2 : (j : Int) < (L.length : Int) := by omega
          have HQm := Lib.hid (List.mem_of_getElem? hq)
          clear hol hq hj
          go_wp2_with fail
          go_meet
          exact ⟨q, .inr HQm.out, rfl, rfl⟩
        | false =>
          have HH := Lib.hid (show hb = S.hd 1 from by rw [← HHb.out]; exact (HD.out.hd 1).symm)
          go_wp2_with fail
          go_meet
          exact ⟨1, .inl rfl, by rw [HH.out], rfl⟩
      case rest =>
      obtain ⟨q, hq, rfl, hw⟩ := hcut
      rw [hw]
      clear hw HB2 b2
      obtain ⟨nq, hnq, hkq⟩ := HD.out.parent hq
      have hqs := HD.out.ne rfl hq
      obtain ⟨mq, hmq, hmk, _⟩ := nI_to (S' := S1) (S := S) ((G1.out.nI q).trans (if_neg hqs)) hnq
      obtain ⟨ms, hms, hmsk, _⟩ := nI_some ((G1.out.nI S.slots.length).trans (if_pos rfl))
      have hdq := HD.out.dep q
      have HI7 := Lib.hid (ins_all HA7.out G1.out.ok q S.slots.length mq ms hmq hms G1.out.kid G1.out.det hqs (.inl ⟨hmk.trans hkq, by rw [hmsk]; decide⟩) (by rw [dadd_ne hqs]; omega))
      rw [G1.out.hd, G1.out.hd] at HI7
      have HQq := Lib.hid hq
      clear hnq hkq hqs hmq hmk hms hmsk hdq hq q0 q1 HQ7
      generalize hsl : S.slots.length = s at *
      have HSl := Lib.hid hsl
      go_wp2_with fail
      refine HI7.out.mono ?_
      rintro e w8 ⟨S2, sv2, fv2, v3, rfl, hA8, g2⟩
      have hD8 := HD.out.elem HSl.out (by omega) HQq.out G1.out g2
      have HD8 := Lib.hid hD8
      have hA8b := hA8.alloc (.cells #[.int .i64 (S.hd s)] 3)
      have HA8 := Lib.hid hA8b
      have HWx := Lib.hid (own_at (n := 1) (size := 1) (Blk.new w8 [.int .i64 (S.hd s)] 3) rfl (by omega))
      have HHd := Lib.hid (fun x => (g2.hd x).trans (G1.out.hd x))
      have hLb : L.length ≤ 100 := by rw [HLl.out]; omega
      have HS2l := Lib.hid (show S2.slots.length = s + 1 from by rw [g2.len, G1.out.len])
      clear hA8 hA8b hD8 g2 HI7 HA7 hsl
      go_wp2_with (at_builtin; refine wpList_append_all etI [trO R S2 sv2 fv2] HA8.out HWx.out (by intro u hu; simp at hu; subst hu; rfl) (by omega) (by omega) rfl _ _ rfl rfl rfl ?_)
      intro v' w9 hA9
      obtain ⟨la', lc', rfl⟩ := own_shape (show Own w9 3 1 v' _ _ from hA9.tail.head)
      have hrow : hdC S L ++ [.int .i64 (S.hd s)] = hdC S2 (L ++ [s]) := by
        rw [← hdC_app, hdC_eq HHd.out L]
        simp [hdC, HHd.out]
      rw [hrow] at hA9
      have HA9 := Lib.hid hA9
      have q0 : w9.cell? ⟨gp, off + k * 4, none⟩ = some (.int .u8 (pk : Int)) := by
        obtain ⟨b, off', e, _, hc'⟩ := HI.out w9 hA9.below (by omega)
        cases e
        have := (hc' k hkl).1
        rw [HPk.out] at this
        exact this
      clear hA9 hrow HA8 HWx
      by_cases hm3 : m = 3
      · have gA : ((m : Int) == 3) = true := by simp [hm3]
        have HM9 := Lib.hid (make_tx HA9.out (HL.out _ HA9.out.below) HD8.out.ok.ok HD8.out.ok.fr (by rw [HS2l.out]; omega) (s + 1) HS2l.out [116, 10, 117] (by decide) (by decide))
        clear hm3
        go_wp2_with fail
        refine HM9.out.mono ?_
        rintro e w10 ⟨S3, sv3, fv3, rfl, hA10, g3⟩
        have hs1 : s ≠ s + 1 := by omega
        obtain ⟨ns, hns, hks⟩ := HD8.out.el s (by simp)
        obtain ⟨m3, hm3, hmk3, _⟩ := nI_to (S' := S3) (S := S2) ((g3.nI s).trans (if_neg hs1)) hns
        obtain ⟨mt, hmt, hmtk, _⟩ := nI_some ((g3.nI (s + 1)).trans (if_pos rfl))
        have hds := HD8.out.dep s
        rw [HS2l.out] at hds
        have HI10 := Lib.hid (ins_all hA10 g3.ok s (s + 1) m3 mt hm3 hmt g3.kid g3.det hs1 (.inl ⟨hmk3.trans hks, by rw [hmtk]; decide⟩) (by rw [dadd_ne hs1]; omega))
        rw [g3.hd, g3.hd, HHd.out s] at HI10
        have G3 := Lib.hid g3
        clear hA10 g3 hns hks hm3 hmk3 hmt hmtk hds hs1 HM9 HA9
        go_wp2_with fail
        refine HI10.out.mono ?_
        rintro e w11 ⟨S4, sv4, fv4, v4, rfl, hA11, g4⟩
        have hD4 := HD8.out.text HS2l.out (by omega) (.inr (by simp)) G3.out g4
        have HD4 := Lib.hid hD4
        have hrow : hdC S2 (L ++ [s]) = hdC S4 (L ++ [s]) := (hdC_eq (fun x => (g4.hd x).trans (G3.out.hd x)) _).symm
        rw [hrow] at hA11
        have HA11 := Lib.hid hA11
        have hll : (L ++ [s]).length = L.length + 1 := by simp
        have HLL := Lib.hid hll
        clear hA11 g4 hD4 hrow HI10 hll
        go_wp2_with fail
        go_roundw
        case rel => exact ⟨k + 1, S4, sv4, fv4, _, _, L ++ [s], by omega, by go_num, by rw [HLL.out]; exact HA11.out, HD4.out.up (by omega), by rw [HLL.out, HLl.out]⟩
        case measure => simp [intOf]; omega
      · have gA : ((m : Int) == 3) = false := by simp; omega
        have hll : (L ++ [s]).length = L.length + 1 := by simp
        have HLL := Lib.hid hll
        clear hm3 hll
        go_wp2_with fail
        go_roundw
        case rel => exact ⟨k + 1, S2, sv2, fv2, _, _, L ++ [s], by omega, by go_num, by rw [HLL.out]; exact HA9.out, HD8.out.up (by omega), by rw [HLL.out, HLl.out]⟩
        case measure => simp [intOf]; omega
    · obtain rfl : k = n := by omega
      have HDD := Lib.hid (And.intro HD.out HLl.out)
      clear hA
      go_wp2_with fail
      go_ret2
      exact ⟨R, S, sv, fv, K, d, L, _, rfl, HA.out, HDD.out.1, HDD.out.2⟩
end Go.Proofs.YtacdbnhnhdlmpaaGreatDoor.W
end
