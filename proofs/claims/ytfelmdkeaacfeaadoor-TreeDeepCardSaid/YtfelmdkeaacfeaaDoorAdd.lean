/- The contract of Add where no slot is free. -/
import Derived.Test.YtfelmdkeaacfeaaDoorDpL
import Derived.Test.YtfelmdkeaacfeaaDoorApp
import Derived.Deep.RegionLaw
namespace Go.Proofs.YtfelmdkeaacfeaaDoor.W
open Go.RowKit
set_option linter.unusedVariables false
set_option linter.unusedSimpArgs false

theorem etS : ET Tryd.prog 27 68 10 112 := ET.mk' (z := .agg #[.bool false, .int .i64 0, .string ⟨#[]⟩, .slice none 0 0, .string ⟨#[]⟩, .int .i64 0, .int .i64 0, .int .i64 0, .int .i64 0, .int .i64 0]) Tryd.underlying27 (by kernel_rfl) rfl (by omega)

/-- an append onto a slice of the call's own, as a step; where the new row lies -/
theorem step_append_B {P : Program} {t e : TypeId} {size bytes : Nat} (hT : ET P t e size bytes) {B : Nat} {w : World} {dv : Value} {n : Nat} {xs : List Value} (hown : w.ownsRow B e size dv n xs) (hB : B ≤ w.heap.size)
    {g m cap : Nat} {ys : List Value} (hs : Own w e size (.slice (some ⟨g, 0, none⟩) m cap) m ys) (h1 : ∀ u ∈ ys, u.oneCell' = true) (hlen : n + m ≤ 1000000000) (hby : bytes ≤ 1000)
    {ops : Array Oper} {E : Prop} {o : Oper} {a : Act} {K : Act → World → Prop} {Q : Exit → Act → World → Prop} (hgd : o.guard = none) (s x : Operand) (ho : o.op = .call { callee := .builtin .append, args := #[s, x], argTypes := #[t, t] }) (hd : a.eval s = dv) (hx : a.eval x = .slice (some ⟨g, 0, none⟩) m cap)
    (hc : ∀ v' w', w'.ownsRow B e size v' (n + m) (xs ++ ys) → w.grownBy w' dv.ownBlock → (v'.ownBlock = dv.ownBlock ∨ v'.ownBlock = some w.heap.size) → K (a.put o.dst v') w') : if Region.wanted o (yielded ops a.tmps) = true then Oper.wp P o a w K Q else E := by
  have hw : Region.wanted o (yielded ops a.tmps) = true := by simp [Region.wanted, hgd]
  rw [if_pos hw]
  obtain ⟨i, z, hi, hz0, hz1, hz2, hz3⟩ := hT.info
  have hmul : (n + m) * bytes ≤ 1000000000 * 1000 := Nat.mul_le_mul hlen hby
  obtain ⟨v', w', hr, h2, h3, _, h5⟩ := run_append_own_at (P := P) w B t o.type e i z size bytes hT.under hi hz0 hz1 hz2 hz3 hT.pos dv n xs hown ⟨g, 0, none⟩ m cap ys hs.1 (own_news hs) h1 (by unfold maxLen; omega) (by omega) hB
  unfold Oper.wp execOp
  simp only [ho, resolve, invoke, builtin, Sem.run_bind, Sem.run_pure, Result.andThen_ok, List.map_toArray, List.map_cons, List.map_nil, hd, hx, hr]
  exact hc v' w' h2 h3 h5

theorem rowC_snoc (l : List (Option Nd)) (n : Nd) : rowC (l ++ [some n]) = rowC l ++ slotC (some n) := by unfold rowC; simp
/-- a tree where a slot has been added -/
theorem TAt.snoc {B R : Nat} {S : Tr} {sv sv' fv : Value} {w w' : World} {n : Nd} (h : TAt B R S sv fv w) (hn : AttrAt B w n.av n.attrs) (hl : S.slots.length < 1000000) (k : Chg (fun k => k = R ∨ sv.ownBlock = some k) w w')
    (hs : w'.ownsRow B 68 10 sv' (S.slots.length + 1) (rowC S.slots ++ slotC (some n)))
    (hb : Blk w' R [.int .i64 S.b, .int .i64 S.s, sv', fv, .int .i64 (S.live + 1 : Nat), .int .i64 S.root] 32) : TAt B R (S.snoc n) sv' fv w' := by
  have hnsv : ∀ {g : Nat} {cs : Array Value} {t : TypeId}, w.heap[g]? = some (.cells cs t (0, 0)) → t ≠ 68 → t ≠ 32 → w'.heap[g]? = w.heap[g]? := fun {g cs t} hg h1 h2 => by
    refine k.block g (lt_of_block hg) ?_
    rintro (rfl | e)
    · exact blk_ne hg h.blk h2 rfl
    · rcases h.slots.2 with ⟨e2, _⟩ | ⟨g', cap', cur', e1, e2, e3, rest⟩
      · rw [e2] at e; cases e
      · rw [e1] at e
        cases e
        exact blk_ne hg e3 h1 rfl
  refine ⟨?_, ?_, ?_, ?_, h.base, ?_⟩
  · rw [live_snoc]; exact hb
  · rw [show (S.snoc n).slots = S.slots ++ [some n] from rfl, rowC_snoc, List.length_append, List.length_singleton]; exact hs
  · obtain ⟨h1, h2⟩ := h.free
    exact ⟨h1, h2.imp id fun ⟨g', cap', cur', e1, e2, e3, rest⟩ => ⟨g', cap', cur', e1, e2, (hnsv e3 (by decide) (by decide)).trans e3, rest⟩⟩
  · intro i m hi
    have hold : AttrAt B w m.av m.attrs := by
      have hi' : (S.snoc n).at i = some m := at_of hi
      rw [at_snoc] at hi'
      by_cases e : i = S.slots.length
      · rw [if_pos e] at hi'; cases hi'; exact hn
      · rw [if_neg e] at hi'; exact h.attrs i m (at_slot hi')
    obtain ⟨a, cp, e, hx⟩ := hold
    exact ⟨a, cp, e, hx.imp id fun ⟨g', cur', e1, e2, e3, e4⟩ => ⟨g', cur', e1, e2, (hnsv e3 (by decide) (by decide)).trans e3, e4⟩⟩
  · rw [snoc_len]; omega
theorem TAt.slots_ne {B R : Nat} {S : Tr} {sv fv : Value} {w : World} (h : TAt B R S sv fv w) : sv.ownBlock ≠ some R := by
  rcases h.slots.2 with ⟨e2, _⟩ | ⟨g', cap', cur', e1, e2, e3, rest⟩
  · rw [e2]; intro e; cases e
  · rw [e1]
    intro e
    cases e
    exact blk_ne e3 h.blk (by decide) rfl
theorem slot_one {B : Nat} {w : World} {n : Nd} (hn : AttrAt B w n.av n.attrs) : ∀ u ∈ slotC (some n), u.oneCell' = true := by
  obtain ⟨a, cp, e, _⟩ := hn
  intro u hu
  simp only [slotC, ndC, List.mem_cons, List.not_mem_nil, or_false] at hu
  rcases hu with rfl | rfl | rfl | rfl | rfl | rfl | rfl | rfl | rfl | rfl
  all_goals first | rfl | (rw [e]; rfl)

theorem own_kB {w w' : World} {B e sz n : Nat} {v : Value} {xs : List Value} (h : w.ownsRow B e sz v n xs) (k : ∀ g, v.ownBlock = some g → w'.heap[g]? = w.heap[g]?) : w'.ownsRow B e sz v n xs := by
  refine ⟨h.1, h.2.imp id ?_⟩
  rintro ⟨g', cap', cur', e1, e2, e3, rest⟩
  exact ⟨g', cap', cur', e1, e2, (k g' (by rw [e1]; rfl)).trans e3, rest⟩
theorem own_ty {w : World} {B e sz n g : Nat} {v : Value} {xs : List Value} (h : w.ownsRow B e sz v n xs) (hg : v.ownBlock = some g) : ∃ cur, w.heap[g]? = some (.cells cur e (0, 0)) := by
  rcases h.2 with ⟨e2, _⟩ | ⟨g', cap', cur', e1, e2, e3, rest⟩
  · rw [e2] at hg; cases hg
  · rw [e1] at hg; cases hg; exact ⟨cur', e3⟩
set_option maxRecDepth 100000 in
set_option maxHeartbeats 4000000 in
theorem add_new {B R : Nat} {S : Tr} {sv fv : Value} {w : World} (h : TAt B R S sv fv w) (hf : S.free = []) (hl : S.slots.length < 1000000) (n : Nd) (hn : AttrAt B w n.av n.attrs) :
    Calls Tryd.prog 10 #[.pointer (some ⟨R, 0, none⟩), .agg #[.int .i64 n.kind, .string ⟨n.name.toArray⟩, n.av, .string ⟨n.data.toArray⟩, .int .i64 n.parent, .int .i64 n.first, .int .i64 n.last, .int .i64 n.prev, .int .i64 n.next]] w fun e w' => ∃ sv', e = .returned (.int .i64 (S.hd S.slots.length)) ∧
      TAt B R (S.snoc n) sv' fv w' ∧ Chg (fun k => k = R ∨ sv.ownBlock = some k) w w' ∧ (sv'.ownBlock = sv.ownBlock ∨ ∃ k, sv'.ownBlock = some k ∧ w.heap.size ≤ k) := by
  have c0 := h.blk.cell 0
  have c1 := h.blk.cell 1
  have c2 := h.blk.cell 2
  have c3 := h.blk.cell 3
  have c4 := h.blk.cell 4
  have hlt := h.blk.lt
  simp only [List.getElem?_cons_succ, List.getElem?_cons_zero] at c0 c1 c2 c3 c4
  obtain ⟨a0, cap0, rfl⟩ := slots_shape h
  obtain ⟨fa, fcap, rfl⟩ := own_shapeB h.free
  rw [hf, List.length_nil] at c3
  have hBw : B ≤ w.heap.size := Nat.le_trans h.base (Nat.le_of_lt hlt)
  have hlv : S.live ≤ S.slots.length := List.length_filter_le _ _
  have H1 := Lib.hid (slot_one hn)
  obtain ⟨av, acap, hav, _⟩ := id hn
  have HT := Lib.hid h
  have HN := Lib.hid hn
  have hB1 := (Below.refl w.heap.size w).alloc (Nat.le_refl _) (.cells #[.int .i64 n.kind, .string ⟨n.name.toArray⟩, n.av, .string ⟨n.data.toArray⟩, .int .i64 n.parent, .int .i64 n.first, .int .i64 n.last, .int .i64 n.prev, .int .i64 n.next] 45)
  have hbx := Blk.new w [.int .i64 n.kind, .string ⟨n.name.toArray⟩, n.av, .string ⟨n.data.toArray⟩, .int .i64 n.parent, .int .i64 n.first, .int .i64 n.last, .int .i64 n.prev, .int .i64 n.next] 45
  have nb : R ≠ w.heap.size := by omega
  have nb2 : w.heap.size ≠ R := by omega
  rw [hav] at hB1 hbx ⊢
  clear hn h
  go_enter Tryd.func10, Tryd.ntmps10
  go_wp2_with fail
  have hB1' := Lib.hid hB1
  have HX := Lib.hid hbx
  have e0 := cell_keep hB1 c0
  have e1 := cell_keep hB1 c1
  have e2 := cell_keep hB1 c2
  have e4 := cell_keep hB1 c4
  have y0 := hbx.cell 0
  have y1 := hbx.cell 1
  have y2 := hbx.cell 2
  have y3 := hbx.cell 3
  have y4 := hbx.cell 4
  have y5 := hbx.cell 5
  have y6 := hbx.cell 6
  have y7 := hbx.cell 7
  have y8 := hbx.cell 8
  simp only [List.getElem?_cons_succ, List.getElem?_cons_zero] at y0 y1 y2 y3 y4 y5 y6 y7 y8
  have HT1 := Lib.hid (HT.out.below hB1)
  have hgW := Nat.lt_of_lt_of_le hlt hB1.size
  have hbW := Nat.le_trans hBw hB1.size
  clear hB1 hbx c0 c1 c2 c4
  generalize hW : w.alloc (.cells #[.int .i64 n.kind, .string ⟨n.name.toArray⟩, .slice av n.attrs.length acap, .string ⟨n.data.toArray⟩, .int .i64 n.parent, .int .i64 n.first, .int .i64 n.last, .int .i64 n.prev, .int .i64 n.next] 45) = W at *
  have hBd : Below W.heap.size W (W.drew.alloc (.cells #[.bool true, .int .i64 n.kind, .string ⟨n.name.toArray⟩, .slice av n.attrs.length acap, .string ⟨n.data.toArray⟩, .int .i64 n.parent, .int .i64 n.first, .int .i64 n.last, .int .i64 n.prev, .int .i64 n.next] 68)) := ((Below.refl W.heap.size W).drew).alloc (Nat.le_refl _) _
  have HO := Lib.hid (own_keepB HT1.out.slots hBd)
  have HS := Lib.hid (own_at (n := 1) (size := 10) (Blk.new W.drew [.bool true, .int .i64 n.kind, .string ⟨n.name.toArray⟩, .slice av n.attrs.length acap, .string ⟨n.data.toArray⟩, .int .i64 n.parent, .int .i64 n.first, .int .i64 n.last, .int .i64 n.prev, .int .i64 n.next] 68) rfl (by omega))
  have HB := Lib.hid hBd
  have HR := Lib.hid (HT1.out.blk.below hBd)
  have H2 := Lib.hid (show ∀ u ∈ ([.bool true, .int .i64 n.kind, .string ⟨n.name.toArray⟩, .slice av n.attrs.length acap, .string ⟨n.data.toArray⟩, .int .i64 n.parent, .int .i64 n.first, .int .i64 n.last, .int .i64 n.prev, .int .i64 n.next] : List Value), u.oneCell' = true by have := H1.out; simp only [slotC, ndC, hav, strV] at this; exact this)
  have HNE := Lib.hid HT1.out.slots_ne
  clear hBd
  go_region_law (first
      | (refine step_append_B etS HO.out (by have := HB.out.size; omega) HS.out H2.out (by omega) (by omega) (by rfl) _ _ (by rfl) (by rfl) (by rfl) ?_; intro v' w1 ho hgr hvb;
          obtain ⟨va, vc, rfl⟩ := own_shapeB ho; have b1 := HR.out.kept (hgr.block R HR.out.lt (fun e => HNE.out e.symm)); have d0 := b1.cell 0; have d1 := b1.cell 1; have d2 := b1.cell 2; have d4 := b1.cell 4; have df := b1.free;
          simp only [List.getElem?_cons_succ, List.getElem?_cons_zero] at d0 d1 d2 d4; have kb := Lib.hid b1; have ks := Lib.hid ho; have kg := Lib.hid hgr; have kv := Lib.hid hvb; clear ho hgr hvb b1))
  all_goals
    go_wp2_with fail
    refine (handle_any S.b S.s (S.slots.length : Nat) _).mono ?_
    rintro e w2 ⟨rfl, hb2⟩
    go_wp2_with fail
    go_ret
    have hbl := kb.out
    have hk1 : Chg (fun k => k = R ∨ (Value.slice a0 S.slots.length cap0).ownBlock = some k) w w1 := ((Chg.of_below hB1'.out).trans (Chg.of_below HB.out) (fun _ _ h => h)).grown kg.out (fun k e _ => .inr e)
    refine ⟨.slice va (S.slots.length + 1) vc, rfl, HT.out.snoc HN.out hl (((hk1.setCell ⟨R, 2, none⟩ (fun _ => .inl rfl) _).setCell ⟨R, 4, none⟩ (fun _ => .inl rfl) _).trans (Chg.of_below hb2) (fun _ _ h => h)) ?_ ?_, (((hk1.setCell ⟨R, 2, none⟩ (fun _ => .inl rfl) _).setCell ⟨R, 4, none⟩ (fun _ => .inl rfl) _).trans (Chg.of_below hb2) (fun _ _ h => h)), ?_⟩
    · have hsl : slotC (some n) = ([.bool true, .int .i64 n.kind, .string ⟨n.name.toArray⟩, .slice av n.attrs.length acap, .string ⟨n.data.toArray⟩, .int .i64 n.parent, .int .i64 n.first, .int .i64 n.last, .int .i64 n.prev, .int .i64 n.next] : List Value) := by simp only [slotC, ndC, hav, strV]
      rw [hsl]
      refine own_kB ks.out (fun g hg => ?_)
      obtain ⟨cur, hcur⟩ := own_ty ks.out hg
      have hne : R ≠ g := fun e => blk_ne hcur hbl (by decide) e.symm
      have hg1 := lt_of_block hcur
      refine (hb2.block g (by simpa using hg1)).trans ?_
      exact (Below.heap_setCell _ _ _ _ (fun e => hne e.symm)).trans (Below.heap_setCell _ _ _ _ (fun e => hne e.symm))
    · have := ((hbl.set 2 (.slice va (S.slots.length + 1) vc)).set 4 (.int .i64 ((S.live : Int) + 1))).below hb2
      exact this
    · rcases kv.out with e | e
      · exact .inl e
      · exact .inr ⟨_, e, by have h1 := hB1'.out.size; have h2 := HB.out.size; omega⟩
end Go.Proofs.YtfelmdkeaacfeaaDoor.W
