/- The contract of Insert at the end, of a detached node. -/
import Derived.Test.YtfelmdkeaacfeaaDoorLink
import Derived.Test.YtfelmdkeaacfeaaDoorAdd
namespace Go.Proofs.YtfelmdkeaacfeaaDoor.W
open Go.RowKit
set_option linter.unusedVariables false
set_option linter.unusedSimpArgs false

theorem etR : ET Tryd.prog 36 41 11 104 := ET.mk' (z := .agg #[.int .i64 0, .int .i64 0, .int .i64 0, .int .i64 0, .int .i64 0, .int .i64 0, .string ⟨#[]⟩, .string ⟨#[]⟩, .bool false, .int .i64 0, .int .i64 0]) Tryd.underlying36 (by kernel_rfl) rfl (by omega)

theorem wpList_append_B {P : Program} {t e : TypeId} {size bytes : Nat} (hT : ET P t e size bytes) {B : Nat} {w : World} {dv : Value} {n : Nat} {xs : List Value} (hown : w.ownsRow B e size dv n xs) (hB : B ≤ w.heap.size)
    {g m cap : Nat} {ys : List Value} (hs : Own w e size (.slice (some ⟨g, 0, none⟩) m cap) m ys) (h1 : ∀ u ∈ ys, u.oneCell' = true) (hlen : n + m ≤ 1000000000) (hby : bytes ≤ 1000)
    {ops : Array Oper} {rest : List Oper} {o : Oper} {a : Act} {Q : Exit → Act → World → Prop} (hgd : o.guard = none) (s x : Operand) (ho : o.op = .call { callee := .builtin .append, args := #[s, x], argTypes := #[t, t] }) (hd : a.eval s = dv) (hx : a.eval x = .slice (some ⟨g, 0, none⟩) m cap)
    (hc : ∀ v' w', w'.ownsRow B e size v' (n + m) (xs ++ ys) → w.grownBy w' dv.ownBlock → (v'.ownBlock = dv.ownBlock ∨ v'.ownBlock = some w.heap.size) → wpList P ops Q rest (a.put o.dst v') w') : wpList P ops Q (o :: rest) a w := by
  refine wpList_plain hgd fun K hK => ?_
  have := step_append_B (P := P) hT hown hB hs h1 hlen hby (ops := ops) (E := False) (o := o) (a := a) (K := K) (Q := Q) hgd s x ho hd hx (fun v' w' h1 h2 h3 => hK _ _ (hc v' w' h1 h2 h3))
  have hw : Region.wanted o (yielded ops a.tmps) = true := by simp [Region.wanted, hgd]
  rwa [if_pos hw] at this

/-- the records of a call: a slice of its own -/
abbrev RcAt (w : World) (B : Nat) (v : Value) (l : List (List Value)) : Prop := w.ownsRow B 41 11 v l.length l.flatten

set_option maxRecDepth 100000 in
set_option maxHeartbeats 4000000 in
theorem insert_end {B R g cap : Nat} {S : Tr} {fv : Value} {w : World} {K : Nat → List Nat} {d d' : Nat → Nat} (h : TAt B R S (.slice (some ⟨g, 0, none⟩) S.slots.length cap) fv w) (hL : Lk S K d) (p c : Nat) (np nc : Nd) (hp : S.at p = some np) (hc : S.at c = some nc) (hpc : p ≠ c)
    (hdet : ∀ q, c ∉ K q) (hmay : mayB S K d p c np nc = true) (hdep : d p + hgt K (128 - d c) c ≤ 128) (hL' : ∀ S', Linked S S' (K p) p (K p).length c → Lk S' (linkK K p (K p).length c) d') :
    Calls Tryd.prog 7 #[.pointer (some ⟨R, 0, none⟩), .int .i64 (S.hd p), .int .i64 (S.hd c), .int .i64 0] w fun e w' => ∃ S' v, Linked S S' (K p) p (K p).length c ∧ e = .returned (.tuple #[v, .int .i64 0]) ∧
      RcAt w' w.heap.size v [recC 1 (S.hd p) (S.hd c) np.last 0 (K p).length [] [] false 0 0] ∧
      TAt B R S' (.slice (some ⟨g, 0, none⟩) S'.slots.length cap) fv w' ∧ Chg (fun k => k = g) w w' := by
  have HP := Lib.hid (fun wx (hb : Below w.heap.size w wx) => at_some (h.below hb) (S.hd p) (hd_ok hL hp).1 (hd_ix hL hp))
  have HC := Lib.hid (fun wx (hb : Below w.heap.size w wx) => at_some (h.below hb) (S.hd c) (hd_ok hL hc).1 (hd_ix hL hc))
  have HM := Lib.hid (fun wx (hb : Below w.heap.size w wx) => may_any (h.below hb) hL p c np nc hp hc)
  rw [hmay] at HM
  have HD := Lib.hid (fun wx (hb : Below w.heap.size w wx) => depth_any (h.below hb) hL p np hp)
  have HH := Lib.hid (fun wx (hb : Below w.heap.size w wx) => height_any hL (128 - d c) c nc hc rfl wx (h.below hb))
  have HK := Lib.hid (fun wx (hb : Below w.heap.size w wx) => link_end (h.below hb) hL p c np nc hp hc hpc hdet hL')
  have H4 := Lib.hid (fun wx (hb : Below w.heap.size w wx) => nd_cell (h.below hb) hc 4 (by omega))
  have h0 := (hL.top c nc hc hdet).1
  have hne : ¬ (0 : Int) = S.hd c := by have := (hd_ok hL hc).2; omega
  have hne2 : ((0 : Int) == S.hd c) = false := by simpa using hne
  have hhc := hgt_le K (128 - d c) c
  have hlow := hL.low p
  clear h hL hp hc hdet hmay hL'
  go_enter Tryd.func7, Tryd.ntmps7
  go_wp2_with fail
  refine (HP.out _ (Below.refl _ _)).mono ?_
  rintro e w1 ⟨rfl, hb1⟩
  go_wp2_with fail
  refine (HC.out _ hb1).mono ?_
  rintro e w2 ⟨rfl, hb2⟩
  have hB2 := bthen hb1 hb2
  go_wp2_with fail
  refine (HM.out _ hB2).mono ?_
  rintro e w3 ⟨rfl, hb3⟩
  have hB3 := bthen hB2 hb3
  go_wp2_with fail
  refine (HD.out _ hB3).mono ?_
  rintro e w4 ⟨rfl, hb4⟩
  have hB4 := bthen hB3 hb4
  go_wp2_with fail
  refine (HH.out _ hB4).mono ?_
  rintro e w5 ⟨rfl, hb5⟩
  have hB5 := bthen hB4 hb5
  generalize hgt K (128 - d c) c = hc1 at *
  have d5 : decide ((128 : Int) < (d p : Int) + (hc1 : Int)) = false := by simp; omega
  go_wp2_with fail
  refine (HC.out _ hB5).mono ?_
  rintro e w6 ⟨rfl, hb6⟩
  have hB6 := bthen hB5 hb6
  have c4 := H4.out _ hB6
  simp only [ndC, List.getElem?_cons_succ, List.getElem?_cons_zero] at c4
  rw [h0] at c4
  go_wp2_with fail
  clear c4 H4
  refine (HK.out _ hB6).mono ?_
  rintro e w7 ⟨S', hlk, rfl, hT7, hC7⟩
  have HT7 := Lib.hid hT7
  have HC7 := Lib.hid hC7
  have HB6 := Lib.hid hB6
  have hs7 := Nat.le_trans hB6.size hC7.size
  clear hT7 hC7 hb1 hb2 hb3 hb4 hb5 hb6 hB2 hB3 hB4 hB5 hB6
  simp only [recC, strV]
  have HS := Lib.hid (own_at (n := 1) (size := 11) (Blk.new w7 [.int .i64 1, .int .i64 (S.hd p), .int .i64 (S.hd c), .int .i64 np.last, .int .i64 0, .int .i64 ((K p).length : Int), .string ⟨#[]⟩, .string ⟨#[]⟩, .bool false, .int .i64 0, .int .i64 0] 41) rfl (by omega))
  have hs8 : w.heap.size ≤ (w7.alloc (.cells #[.int .i64 1, .int .i64 (S.hd p), .int .i64 (S.hd c), .int .i64 np.last, .int .i64 0, .int .i64 ((K p).length : Int), .string ⟨#[]⟩, .string ⟨#[]⟩, .bool false, .int .i64 0, .int .i64 0] 41)).heap.size := by simp; omega
  go_wp2_with (at_builtin; refine wpList_append_B etR (World.ownsRow_nil _ w.heap.size _ _) hs8 HS.out ?c1 (by omega) (by omega) rfl _ _ rfl rfl rfl ?_)
  case c1 => intro u hu; simp only [List.mem_cons, List.not_mem_nil, or_false] at hu; rcases hu with rfl | rfl | rfl | rfl | rfl | rfl | rfl | rfl | rfl | rfl | rfl <;> rfl
  intro v' w8 ho hgr _
  have h8 : Below w7.heap.size w7 w8 := ((Below.refl _ w7).alloc (Nat.le_refl _) _).grown hgr (by simp) (fun k e => by cases e)
  have HO := Lib.hid ho
  have H8 := Lib.hid h8
  clear ho hgr h8 HS
  go_wp2_with fail
  go_ret2
  refine ⟨S', v', hlk, rfl, ?_, HT7.out.below H8.out, ((Chg.of_below HB6.out).trans HC7.out (fun _ _ h => h)).trans (Chg.of_below H8.out) (fun _ _ h => h)⟩
  simpa [RcAt, recC, strV] using HO.out

set_option maxRecDepth 100000 in
set_option maxHeartbeats 4000000 in
theorem insert_deep {B R g cap : Nat} {S : Tr} {fv : Value} {w : World} {K : Nat → List Nat} {d : Nat → Nat} (h : TAt B R S (.slice (some ⟨g, 0, none⟩) S.slots.length cap) fv w) (hL : Lk S K d) (p c : Nat) (np nc : Nd) (hp : S.at p = some np) (hc : S.at c = some nc)
    (hmay : mayB S K d p c np nc = true) (hdep : 128 < d p + hgt K (128 - d c) c) :
    Calls Tryd.prog 7 #[.pointer (some ⟨R, 0, none⟩), .int .i64 (S.hd p), .int .i64 (S.hd c), .int .i64 0] w fun e w' => e = .returned (.tuple #[.slice none 0 0, .int .i64 5]) ∧ Below w.heap.size w w' := by
  have HP := Lib.hid (fun wx (hb : Below w.heap.size w wx) => at_some (h.below hb) (S.hd p) (hd_ok hL hp).1 (hd_ix hL hp))
  have HC := Lib.hid (fun wx (hb : Below w.heap.size w wx) => at_some (h.below hb) (S.hd c) (hd_ok hL hc).1 (hd_ix hL hc))
  have HM := Lib.hid (fun wx (hb : Below w.heap.size w wx) => may_any (h.below hb) hL p c np nc hp hc)
  rw [hmay] at HM
  have HD := Lib.hid (fun wx (hb : Below w.heap.size w wx) => depth_any (h.below hb) hL p np hp)
  have HH := Lib.hid (fun wx (hb : Below w.heap.size w wx) => height_any hL (128 - d c) c nc hc rfl wx (h.below hb))
  have hhc := hgt_le K (128 - d c) c
  have hlow := hL.low p
  clear h hL hp hc hmay
  go_enter Tryd.func7, Tryd.ntmps7
  go_wp2_with fail
  refine (HP.out _ (Below.refl _ _)).mono ?_
  rintro e w1 ⟨rfl, hb1⟩
  go_wp2_with fail
  refine (HC.out _ hb1).mono ?_
  rintro e w2 ⟨rfl, hb2⟩
  have hB2 := bthen hb1 hb2
  go_wp2_with fail
  refine (HM.out _ hB2).mono ?_
  rintro e w3 ⟨rfl, hb3⟩
  have hB3 := bthen hB2 hb3
  go_wp2_with fail
  refine (HD.out _ hB3).mono ?_
  rintro e w4 ⟨rfl, hb4⟩
  have hB4 := bthen hB3 hb4
  go_wp2_with fail
  refine (HH.out _ hB4).mono ?_
  rintro e w5 ⟨rfl, hb5⟩
  have hB5 := bthen hB4 hb5
  generalize hgt K (128 - d c) c = hc1 at *
  have d5 : decide ((128 : Int) < (d p : Int) + (hc1 : Int)) = true := by simp; omega
  go_wp2_with fail
  go_ret2
  exact ⟨rfl, hB5⟩
end Go.Proofs.YtfelmdkeaacfeaaDoor.W
