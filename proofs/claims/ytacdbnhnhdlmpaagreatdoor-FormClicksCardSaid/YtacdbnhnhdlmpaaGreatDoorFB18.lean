/- Texts joined: Nod OpF TwI Wlk Fam Whole Formed RegI. -/
import Derived.Test.YtacdbnhnhdlmpaaGreatDoorFB17
import Derived.Test.YtacdbnhnhdlmpaaGreatDoorFB1
import Derived.Lib.SmallJoins
import Derived.Deep.Slices
import Derived.Test.YtacdbnhnhdlmpaaGreatDoorFB16
import Derived.Test.YtacdbnhnhdlmpaaGreatDoorFB9
import Derived.BigQuiet
import Derived.Test.YtacdbnhnhdlmpaaGreatDoorFB12
import Derived.Test.YtacdbnhnhdlmpaaGreatDoorFB6
import Derived.OrdersIn
import Derived.TacticsIn
set_option maxRecDepth 100000
set_option maxHeartbeats 40000000
set_option linter.unusedVariables false
set_option linter.unusedSimpArgs false
section
namespace Go.Proofs.YtacdbnhnhdlmpaaGreatDoor.W
open Go.RowKit
def zeroN : Nd := ⟨0, [], .slice none 0 0, [], [], 0, 0, 0, 0, 0⟩
theorem res_nd {fn : Func} (h : fn.results = #[.cell 4 135, .tmp 5]) {tmps : Array Value} {w : World} {r : Nat} {n : Nd} (hp : tmps.getD 4 undef = .pointer (some ⟨r, 0, none⟩)) (hk : Blk w r (ndC n) 135) :
    (results fn tmps).run Tryz.prog w = .ok (.tuple #[.agg (ndC n).toArray, tmps.getD 5 undef]) w := by
  have c0 := hk.cell 0
  have c1 := hk.cell 1
  have c2 := hk.cell 2
  have c3 := hk.cell 3
  have c4 := hk.cell 4
  have c5 := hk.cell 5
  have c6 := hk.cell 6
  have c7 := hk.cell 7
  have c8 := hk.cell 8
  simp only [ndC, List.getElem?_cons_succ, List.getElem?_cons_zero] at c0 c1 c2 c3 c4 c5 c6 c7 c8
  rw [Array.getD_eq_getD_getElem?] at hp
  simp [results, h, hp, go_sem, ndC, c0, c1, c2, c3, c4, c5, c6, c7, c8]
theorem Blk.over {w : World} {r : Nat} {a : List Value} (n : Nd) (k : Blk w r a 135) (ha : a.length = 9) :
    Blk (((((((((w.setCell ⟨r, 0, none⟩ (.int .i64 n.kind)).setCell ⟨r, 1, none⟩ (strV n.name)).setCell ⟨r, 2, none⟩ n.av).setCell ⟨r, 3, none⟩ (strV n.data)).setCell ⟨r, 4, none⟩ (.int .i64 n.parent)).setCell ⟨r, 5, none⟩ (.int .i64 n.first)).setCell ⟨r, 6, none⟩ (.int .i64 n.last)).setCell ⟨r, 7, none⟩ (.int .i64 n.prev)).setCell ⟨r, 8, none⟩ (.int .i64 n.next)) r (ndC n) 135 := by
  have h9 := ((((((((k.set 0 (.int .i64 n.kind)).set 1 (strV n.name)).set 2 n.av).set 3 (strV n.data)).set 4 (.int .i64 n.parent)).set 5 (.int .i64 n.first)).set 6 (.int .i64 n.last)).set 7 (.int .i64 n.prev)).set 8 (.int .i64 n.next)
  match a, ha with
  | [_, _, _, _, _, _, _, _, _], _ => simpa [ndC] using h9
theorem Below.over {B : Nat} {w0 w : World} {r : Nat} (n : Nd) (h : Below B w0 w) (hr : B ≤ r) :
    Below B w0 (((((((((w.setCell ⟨r, 0, none⟩ (.int .i64 n.kind)).setCell ⟨r, 1, none⟩ (strV n.name)).setCell ⟨r, 2, none⟩ n.av).setCell ⟨r, 3, none⟩ (strV n.data)).setCell ⟨r, 4, none⟩ (.int .i64 n.parent)).setCell ⟨r, 5, none⟩ (.int .i64 n.first)).setCell ⟨r, 6, none⟩ (.int .i64 n.last)).setCell ⟨r, 7, none⟩ (.int .i64 n.prev)).setCell ⟨r, 8, none⟩ (.int .i64 n.next)) :=
  (((((((((h.setCell (p := ⟨r, 0, none⟩) hr _).setCell (p := ⟨r, 1, none⟩) hr _).setCell (p := ⟨r, 2, none⟩) hr _).setCell (p := ⟨r, 3, none⟩) hr _).setCell (p := ⟨r, 4, none⟩) hr _).setCell (p := ⟨r, 5, none⟩) hr _).setCell (p := ⟨r, 6, none⟩) hr _).setCell (p := ⟨r, 7, none⟩) hr _).setCell (p := ⟨r, 8, none⟩) hr _)
theorem get_some {B R g cap : Nat} {S : Tr} {fv : Value} {w : World} (h : TAt B R S (.slice (some ⟨g, 0, none⟩) S.slots.length cap) fv w) (hd : Int) (hh : HOk hd) {k : Nat} (hk : S.ix hd = some k) {n : Nd} (hn : S.slots[k]? = some (some n)) :
    Calls Tryz.prog 125 #[.pointer (some ⟨R, 0, none⟩), .int .i64 hd] w fun e w' => e = .returned (.tuple #[.agg (ndC n).toArray, .bool true]) ∧ Below w.heap.size w w' := by
  obtain ⟨nk, nn, nav, nal, nda, np, nf, nl, npv, nx⟩ := n
  obtain ⟨av, acap, hav, _⟩ := h.attrs k _ hn
  simp only [] at hav
  subst hav
  have HF := Lib.hid (fun wx (hb : Below w.heap.size w wx) => find_some (h.below hb) hd hh hk)
  have HT := Lib.hid h
  have hgl := (h.slots.lt g rfl).2
  obtain ⟨_, hkl, _⟩ := ix_some hk
  have HN := Lib.hid hn
  clear h hk hn
  have hb1 := (Below.refl w.heap.size w).alloc (Nat.le_refl _) (.cells (ndC zeroN).toArray 135)
  have k1 := Blk.new w (ndC zeroN) 135
  go_enter Tryz.func125, Tryz.ntmps125
  go_wp2_with fail
  refine (HF.out _ hb1).mono ?_
  rintro e w2 ⟨rfl, hb2⟩
  have k2 := Blk.below k1 hb2
  have HB2 := Lib.hid (bthen hb1 hb2)
  have hT2 := HT.out.below HB2.out
  have s1 := slot_cell hT2 HN.out 1 (by omega)
  have s2 := slot_cell hT2 HN.out 2 (by omega)
  have s3 := slot_cell hT2 HN.out 3 (by omega)
  have s4 := slot_cell hT2 HN.out 4 (by omega)
  have s5 := slot_cell hT2 HN.out 5 (by omega)
  have s6 := slot_cell hT2 HN.out 6 (by omega)
  have s7 := slot_cell hT2 HN.out 7 (by omega)
  have s8 := slot_cell hT2 HN.out 8 (by omega)
  have s9 := slot_cell hT2 HN.out 9 (by omega)
  simp only [slotC, ndC, strV, List.getElem?_cons_succ, List.getElem?_cons_zero] at s1 s2 s3 s4 s5 s6 s7 s8 s9
  simp only [ndC, zeroN, strV] at k2 ⊢
  have c0 := k2.cell 0
  have c1 := k2.cell 1
  have c2 := k2.cell 2
  have c3 := k2.cell 3
  have c4 := k2.cell 4
  have c5 := k2.cell 5
  have c6 := k2.cell 6
  have c7 := k2.cell 7
  have c8 := k2.cell 8
  have cf := k2.free
  simp only [List.getElem?_cons_succ, List.getElem?_cons_zero] at c0 c1 c2 c3 c4 c5 c6 c7 c8
  have hlt := k2.lt
  have hne : g ≠ w.heap.size := by omega
  have hg2 := (hT2.slots.lt g rfl).2
  clear k1 hb1 hb2 HF hT2
  go_wp2_with fail
  have k9 := Blk.over ⟨nk, nn, .slice av nal.length acap, nal, nda, np, nf, nl, npv, nx⟩ k2 rfl
  have b9 := Below.over ⟨nk, nn, .slice av nal.length acap, nal, nda, np, nf, nl, npv, nx⟩ HB2.out (Nat.le_refl w.heap.size)
  exact bodyPost_ret (res_nd (by rfl) (by rfl) k9) rfl ⟨rfl, b9⟩
theorem attr_below {B : Nat} {w w' : World} {v : Value} {l : List Atr} (h : AttrAt B w v l) (hb : Below w.heap.size w w') : AttrAt B w' v l := by
  obtain ⟨a, c, e, h'⟩ := h
  refine ⟨a, c, e, h'.imp id ?_⟩
  rintro ⟨b, cur, e2, hB, hg, hc⟩
  exact ⟨b, cur, e2, hB, (hb.block b (lt_of_block hg)).trans hg, hc⟩
set_option maxRecDepth 100000 in
set_option maxHeartbeats 4000000 in
theorem node_x {B R : Nat} {w : World} (n : Nd) (b : Bool) (hd : Int) (HG : ∀ wx, Below w.heap.size w wx → Calls Tryz.prog 125 #[.pointer (some ⟨R, 0, none⟩), .int .i64 hd] wx fun e w' => e = .returned (.tuple #[.agg (ndC n).toArray, .bool b]) ∧ Below wx.heap.size wx w')
    (ha : AttrAt B w n.av n.attrs) (hl : n.attrs.length ≤ 1000) (hz : ∀ j, w.frozen? ⟨R, j, none⟩ = false) (hR : R < w.heap.size) :
    Calls Tryz.prog 79 #[.pointer (some ⟨R, 0, none⟩), .int .i64 hd] w fun e w' => ∃ v', e = .returned (.tuple #[.agg (ndC { n with av := v' }).toArray, .bool b]) ∧ w'.ownsRow w.heap.size 85 2 v' n.attrs.length (attrC n.attrs) ∧ Below w.heap.size w w' := by
  obtain ⟨nk, nn, nav, nal, nda, np, nf, nl, npv, nx⟩ := n
  obtain ⟨av, acap, hav, _⟩ := id ha
  simp only [] at hav
  subst hav
  have HGe := Lib.hid HG
  have HA := Lib.hid (fun wx (hb : Below w.heap.size w wx) => (show Calls Tryz.prog 92 #[.slice av nal.length acap] wx _ from clone_attr (attr_below ha hb) hl))
  clear HG ha
  have hb1 := (Below.refl w.heap.size w).alloc (Nat.le_refl _) (.cells (ndC zeroN).toArray 135)
  have k1 := Blk.new w (ndC zeroN) 135
  go_enter Tryz.func79, Tryz.ntmps79
  go_wp2_with fail
  refine (HGe.out _ hb1).mono ?_
  rintro e w2 ⟨rfl, hb2⟩
  simp only [ndC, zeroN, strV] at k1 ⊢
  have k2 := Blk.below k1 hb2
  have hb02 := bthen hb1 hb2
  have k3 := k2.alloc (.cells #[.int .i64 nk, .string ⟨nn.toArray⟩, .slice av nal.length acap, .string ⟨nda.toArray⟩, .int .i64 np, .int .i64 nf, .int .i64 nl, .int .i64 npv, .int .i64 nx] 135)
  have kn := Blk.new w2 [.int .i64 nk, .string ⟨nn.toArray⟩, .slice av nal.length acap, .string ⟨nda.toArray⟩, .int .i64 np, .int .i64 nf, .int .i64 nl, .int .i64 npv, .int .i64 nx] 135
  have hb3 := hb02.alloc hb02.size (.cells #[.int .i64 nk, .string ⟨nn.toArray⟩, .slice av nal.length acap, .string ⟨nda.toArray⟩, .int .i64 np, .int .i64 nf, .int .i64 nl, .int .i64 npv, .int .i64 nx] 135)
  have hl2 := k2.lt
  have hne : w2.heap.size ≠ w.heap.size := by omega
  clear k1 k2 hb1 hb2
  go_wp2_with fail
  generalize hr2 : w2.heap.size = r2 at *
  generalize w2.alloc (.cells #[.int .i64 nk, .string ⟨nn.toArray⟩, .slice av nal.length acap, .string ⟨nda.toArray⟩, .int .i64 np, .int .i64 nf, .int .i64 nl, .int .i64 npv, .int .i64 nx] 135) = w3 at *
  refine (HA.out _ hb3).mono ?_
  rintro e w4 ⟨v', rfl, ho, hb4⟩
  obtain ⟨va, vc, rfl⟩ := own_shapeB ho
  have ho0 : w4.ownsRow w.heap.size 85 2 (.slice va nal.length vc) nal.length (attrC nal) := own_baseB (own_low ho (Nat.zero_le _)) (fun k hk => Nat.le_trans hb3.size (ho.lt k hk).1)
  have HO := Lib.hid ho0
  have kA := Blk.below k3 hb4
  have kN := Blk.below kn hb4
  have HB4 := Lib.hid (bthen hb3 hb4)
  have HKA := Lib.hid kA
  have HKN := Lib.hid kN
  have c0 := kA.cell 0
  have c1 := kA.cell 1
  have c2 := kA.cell 2
  have c3 := kA.cell 3
  have c4 := kA.cell 4
  have c5 := kA.cell 5
  have c6 := kA.cell 6
  have c7 := kA.cell 7
  have c8 := kA.cell 8
  have cf := kA.free
  have d0 := kN.cell 0
  have d1 := kN.cell 1
  have d2 := kN.cell 2
  have d3 := kN.cell 3
  have d4 := kN.cell 4
  have d5 := kN.cell 5
  have d6 := kN.cell 6
  have d7 := kN.cell 7
  have d8 := kN.cell 8
  have df := kN.free
  simp only [List.getElem?_cons_succ, List.getElem?_cons_zero] at c0 c1 c2 c3 c4 c5 c6 c7 c8 d0 d1 d2 d3 d4 d5 d6 d7 d8
  clear hb3 hb4 hb02 k3 kn ho ho0 kA kN
  go_wp2_with fail
  have k5 := HKA.out.setOther ⟨r2, 2, none⟩ (fun e => hne e.symm) (.slice va nal.length vc)
  have k9 := Blk.over ⟨nk, nn, .slice va nal.length vc, nal, nda, np, nf, nl, npv, nx⟩ k5 rfl
  have b9 := Below.over ⟨nk, nn, .slice va nal.length vc, nal, nda, np, nf, nl, npv, nx⟩ (HB4.out.setCell (p := ⟨r2, 2, none⟩) (by show w.heap.size ≤ r2; omega) (.slice va nal.length vc)) (Nat.le_refl w.heap.size)
  refine bodyPost_ret (res_nd (by rfl) (by rfl) k9) rfl ⟨.slice va nal.length vc, rfl, ?_, b9⟩
  refine own_kB HO.out (fun k hk => ?_)
  obtain ⟨cur, hcur⟩ := own_ty HO.out hk
  have n1 : k ≠ w.heap.size := fun e => by subst e; exact blk_ne hcur HKA.out (by decide) rfl
  have n2 : k ≠ r2 := fun e => by subst e; exact blk_ne hcur HKN.out (by decide) rfl
  have e1 : ∀ (wx : World) (j : Nat) (u : Value), (wx.setCell ⟨w.heap.size, j, none⟩ u).heap[k]? = wx.heap[k]? := fun wx j u => Below.heap_setCell _ _ _ _ n1
  have e2 : ∀ (wx : World) (j : Nat) (u : Value), (wx.setCell ⟨r2, j, none⟩ u).heap[k]? = wx.heap[k]? := fun wx j u => Below.heap_setCell _ _ _ _ n2
  simp only [e1, e2]
theorem node_some {B R : Nat} {S : Tr} {sv fv : Value} {w : World} (h : TAt B R S sv fv w) (hd : Int) (hh : HOk hd) {k : Nat} (hk : S.ix hd = some k) {n : Nd} (hn : S.slots[k]? = some (some n)) (hl : n.attrs.length ≤ 1000) :
    Calls Tryz.prog 79 #[.pointer (some ⟨R, 0, none⟩), .int .i64 hd] w fun e w' => ∃ v', e = .returned (.tuple #[.agg (ndC { n with av := v' }).toArray, .bool true]) ∧ w'.ownsRow w.heap.size 85 2 v' n.attrs.length (attrC n.attrs) ∧ Below w.heap.size w w' := by
  obtain ⟨_, hkl, _⟩ := ix_some hk
  obtain ⟨g, cap, rfl⟩ := slots_some h (by omega)
  exact node_x (R := R) n true hd (fun wx hb => get_some (h.below hb) hd hh hk hn) (h.attrs k n hn) hl h.blk.free h.blk.lt
end Go.Proofs.YtacdbnhnhdlmpaaGreatDoor.W
end
section
namespace Go.Proofs.YtacdbnhnhdlmpaaGreatDoor.W
open Go.ChangeShapes Go.WideShapes Go.ChangeAt Go.RowKit Go.Joins Go.Deep
theorem byte_inF {x : Int} (h : (Lit.int .u8 x).wf = true) : 0 ≤ x ∧ x ≤ 255 := by
  have := bounds_u8 h
  omega
end Go.Proofs.YtacdbnhnhdlmpaaGreatDoor.W
end
section
namespace Go.Proofs.YtacdbnhnhdlmpaaGreatDoor.W
open Go.RowKit
def hM (S : Tr) (σ : Nat → Nat) (v : Int) : Int := if v < 0 then 0 else S.hd (σ v.toNat)
section
variable {ex : Prop} {E : Nat → Prop} {c : Nat} {S S' : Tr} {K K' : Nat → List Nat} {d d' : Nat → Nat} {M M' : List MN} {σ : Nat → Nat}
theorem keeps_cl (S S1 : Tr) (l l1 : List Nat) (q i p j x : Nat) : Keeps (fun y n => linkN S1 l1 p j x y (cutN S l q i x y n)) := fun _ _ => ⟨rfl, rfl, rfl, rfl⟩
theorem linkK_mem {K : Nat → List Nat} {p j x q k : Nat} (h : k ∈ linkK K p j x q) : k ∈ K q ∨ (q = p ∧ k = x) := by
  unfold linkK at h
  split at h
  · rename_i e
    rcases List.mem_append.1 h with h | h
    · exact .inl (e ▸ List.mem_of_mem_take h)
    · rcases List.mem_cons.1 h with h | h
      · exact .inr ⟨e, h⟩
      · exact .inl (e ▸ List.mem_of_mem_drop h)
  · exact .inl h
theorem cutK_mem {K : Nat → List Nat} {p j q k : Nat} (h : k ∈ cutK K p j q) : k ∈ K q := by
  unfold cutK at h
  split at h
  · rename_i e; exact e ▸ List.mem_of_mem_eraseIdx h
  · exact h
theorem TrOk.ins (T : TrOk c S K d) {p x : Nat} {o : Option Nat} {np nx : Nd} {l : List (List Value)} (hp : S.at p = some np) (hx : S.at x = some nx) (hmay : mayB S K d p x np nx = true) (h : InsOut S K x p o nx S' K' l) (L' : Lk S' K' d') : TrOk c S' K' d' := by
  have hx0 : x ≠ 0 := fun e => by
    obtain ⟨n0, h1, h2⟩ := T.doc
    subst e
    rw [hx] at h1; cases h1
    exact (may_kinds hmay).1 h2
  have key : ∀ (f : Nat → Nd → Nd), Keeps f → (∀ y n, (f y n).name = n.name) → (∀ y, S'.at y = (S.at y).map (f y)) → S'.b = S.b → S'.s = S.s → S'.free = S.free → S'.root = S.root → S'.slots.length = S.slots.length → (∀ q k, k ∈ K' q → k ∈ K q ∨ (q = p ∧ k = x)) → TrOk c S' K' d' := by
    intro f hf hnm hat hb hs hfr hr hl hmem
    refine T.map f hf hnm hat hb hs hfr hr hl L' (fun q nq hq => ?_) (fun q h => ?_)
    · have hback : ∀ k n', S'.at k = some n' → ∃ n, S.at k = some n ∧ n.kind = n'.kind := fun k n' hn => by
        rw [hat] at hn
        obtain ⟨n, h1, rfl⟩ := Option.map_eq_some_iff.1 hn
        exact ⟨n, h1, (hf k n).1.symm⟩
      by_cases e : q = p
      · subst e
        rw [hp] at hq; cases hq
        exact (T.fam q np hp).add hmay hx (hf q np).1 (fun k h => (hmem q k h).elim .inr (fun h => .inl h.2)) hback
      · exact (T.fam q nq hq).sub (hf q nq).1 (fun k h => (hmem q k h).resolve_right (fun h => e h.1)) hback
    · rcases hmem q 0 h with h | ⟨_, h⟩
      · exact T.nodoc q h
      · exact hx0 h.symm
  cases h with
  | det j h1 h2 h3 h4 h5 =>
    subst h4
    exact key (linkN S (K p) p j x) (keeps_link S (K p) p j x) (fun _ _ => rfl) h3.at_ h3.b h3.s h3.free h3.root h3.len (fun q k h => linkK_mem h)
  | att q i j S1 o' h1 h2 h3 h4 h5 h6 h7 =>
    subst h6
    refine key (fun y n => linkN S1 (cutK K q i p) p j x y (cutN S (K q) q i x y n)) (keeps_cl _ _ _ _ _ _ _ _ _) (fun _ _ => rfl) (fun y => ?_) (h5.b.trans h2.b) (h5.s.trans h2.s) (h5.free.trans h2.free) (h5.root.trans h2.root) (h5.len.trans h2.len) (fun q' k h => (linkK_mem h).imp (fun h => cutK_mem h) id)
    rw [h5.at_, h2.at_]
    cases S.at y <;> rfl
end
def wlk (K : Nat → List Nat) : Nat → Nat → List Nat
  | 0, i => [i]
  | f + 1, i => i :: (K i).flatMap (wlk K f)
theorem flatMap_take_succ {α β : Type} {l : List α} {j : Nat} {k : α} (h : l[j]? = some k) (f : α → List β) : (l.take (j + 1)).flatMap f = (l.take j).flatMap f ++ f k := by
  rw [List.take_add_one, h, List.flatMap_append]; simp
theorem wlk_pos (K : Nat → List Nat) (f i : Nat) : 1 ≤ (wlk K f i).length := by cases f <;> simp [wlk]
theorem nodup_flat {α : Type} (f : Nat → List α) : ∀ l : List Nat, l.Nodup → (∀ x ∈ l, (f x).Nodup) → (∀ x ∈ l, ∀ y ∈ l, x ≠ y → ∀ z, z ∈ f x → z ∉ f y) → (l.flatMap f).Nodup
  | [], _, _, _ => by simp
  | x :: l, h1, h2, h3 => by
    rw [List.nodup_cons] at h1
    rw [List.flatMap_cons, List.nodup_append]
    refine ⟨h2 x (by simp), nodup_flat f l h1.2 (fun y hy => h2 y (by simp [hy])) (fun a ha b hb => h3 a (by simp [ha]) b (by simp [hb])), ?_⟩
    rintro a ha b hb rfl
    obtain ⟨y, hy, hb⟩ := List.mem_flatMap.1 hb
    exact h3 x (by simp) y (by simp [hy]) (fun e => h1.1 (e ▸ hy)) a ha hb
section
variable {S : Tr} {K : Nat → List Nat} {d : Nat → Nat}
theorem Lk.parO (h : Lk S K d) (x : Nat) : (∃ q, x ∈ K q) ∨ ∀ q, x ∉ K q := by
  by_cases e : ∃ q, x ∈ K q
  · exact .inl e
  · exact .inr (fun q hq => e ⟨q, hq⟩)
theorem sub_le (h : Lk S K d) {a x : Nat} (hx : (S.at x).isSome = true) (hs : subB S d a x = true) : d a ≤ d x := (sub_dep h (d x) x rfl hx hs).1
theorem sub_trans (h : Lk S K d) {a b : Nat} : ∀ (n x : Nat), d x = n → (S.at x).isSome = true → subB S d a b = true → subB S d b x = true → subB S d a x = true
  | n, x, hn, hx, h1, h2 => by
    rcases h.parO x with ⟨q, hq⟩ | ht
    · have hd := h.dep q x hq
      have e1 := sub_kid h hq b
      have e2 := sub_kid h hq a
      rw [e1] at h2
      rw [e2]
      by_cases hbx : b = x
      · subst hbx
        rw [e2] at h1; exact h1
      · have h3 : subB S d b q = true := by
          have : (b == x) = false := beq_eq_false_iff_ne.2 hbx
          rw [this] at h2; simpa using h2
        have := sub_trans h (d q) q rfl (h.kin q x hq).1 h1 h3
        rw [this]; simp
    · rw [sub_top h hx ht] at h2 ⊢
      have hbx : b = x := by simpa using h2
      subst hbx
      rw [sub_top h hx ht] at h1; exact h1
termination_by n => n
decreasing_by omega
theorem sub_uniq (h : Lk S K d) {a b : Nat} (hab : d a = d b) : ∀ (n x : Nat), d x = n → (S.at x).isSome = true → subB S d a x = true → subB S d b x = true → a = b
  | n, x, hn, hx, h1, h2 => by
    rcases h.parO x with ⟨q, hq⟩ | ht
    · have hd := h.dep q x hq
      have hu := (h.kin q x hq).1
      rw [sub_kid h hq] at h1 h2
      by_cases ha : a = x
      · by_cases hb : b = x
        · rw [ha, hb]
        · have : subB S d b q = true := by rw [beq_eq_false_iff_ne.2 hb] at h2; simpa using h2
          have := sub_le h hu this
          rw [ha] at hab; omega
      · have h3 : subB S d a q = true := by rw [beq_eq_false_iff_ne.2 ha] at h1; simpa using h1
        by_cases hb : b = x
        · have := sub_le h hu h3
          rw [hb] at hab; omega
        · have h4 : subB S d b q = true := by rw [beq_eq_false_iff_ne.2 hb] at h2; simpa using h2
          exact sub_uniq h hab (d q) q rfl hu h3 h4
    · rw [sub_top h hx ht] at h1 h2
      have e1 : a = x := by simpa using h1
      have e2 : b = x := by simpa using h2
      rw [e1, e2]
termination_by n => n
decreasing_by omega
theorem wlk_sub (h : Lk S K d) : ∀ (f x y : Nat), (S.at x).isSome = true → y ∈ wlk K f x → subB S d x y = true ∧ (S.at y).isSome = true
  | 0, x, y, hx, hy => by
    simp [wlk] at hy; subst hy; exact ⟨sub_self h hx, hx⟩
  | f + 1, x, y, hx, hy => by
    rw [wlk, List.mem_cons] at hy
    rcases hy with rfl | hy
    · exact ⟨sub_self h hx, hx⟩
    · obtain ⟨k, hk, hy⟩ := List.mem_flatMap.1 hy
      obtain ⟨h1, h2⟩ := wlk_sub h f k y (h.kin x k hk).2 hy
      refine ⟨sub_trans h (d y) y rfl h2 (b := k) ?_ h1, h2⟩
      rw [sub_kid h hk, sub_self h hx]; simp
theorem sub_wlk (h : Lk S K d) : ∀ (n x y : Nat), d y = n → (S.at y).isSome = true → (S.at x).isSome = true → subB S d x y = true → y ∈ wlk K (128 - d x) x
  | n, x, y, hn, hy, hx, hs => by
    rcases h.parO y with ⟨q, hq⟩ | ht
    · have hd := h.dep q y hq
      have hu := (h.kin q y hq).1
      rw [sub_kid h hq] at hs
      by_cases e : x = y
      · subst e
        cases 128 - d x <;> simp [wlk]
      · have h3 : subB S d x q = true := by rw [beq_eq_false_iff_ne.2 e] at hs; simpa using hs
        have h4 := sub_wlk h (d q) x q rfl hu hx h3
        have hlow := h.low y
        have hle := sub_le h hu h3
        -- a child of a walked node is walked, where the fuel suffices
        have key : ∀ (f x : Nat), (S.at x).isSome = true → 128 - d x ≤ f → q ∈ wlk K f x → subB S d x q = true → y ∈ wlk K f x := by
          intro f
          induction f with
          | zero =>
            intro x hx hf hm hs
            simp [wlk] at hm
            subst hm
            have := h.low y
            omega
          | succ f ih =>
            intro x hx hf hm hs
            rw [wlk, List.mem_cons] at hm
            rw [wlk, List.mem_cons]
            right
            rcases hm with rfl | hm
            · refine List.mem_flatMap.2 ⟨y, hq, ?_⟩
              cases f <;> simp [wlk]
            · obtain ⟨k, hk, hm⟩ := List.mem_flatMap.1 hm
              have hdk := h.dep x k hk
              obtain ⟨k1, k2⟩ := wlk_sub h f k q (h.kin x k hk).2 hm
              exact List.mem_flatMap.2 ⟨k, hk, ih k (h.kin x k hk).2 (by omega) hm k1⟩
        exact key _ x hx (Nat.le_refl _) h4 h3
    · rw [sub_top h hy ht] at hs
      have e : x = y := by simpa using hs
      subst e
      cases 128 - d x <;> simp [wlk]
termination_by n => n
decreasing_by omega
theorem wlk_nodup (h : Lk S K d) : ∀ (f x : Nat), (S.at x).isSome = true → (wlk K f x).Nodup
  | 0, x, _ => by simp [wlk]
  | f + 1, x, hx => by
    rw [wlk, List.nodup_cons]
    refine ⟨fun hm => ?_, nodup_flat _ _ (h.nodup x) (fun k hk => wlk_nodup h f k (h.kin x k hk).2) (fun a ha b hb hab z hza hzb => ?_)⟩
    · obtain ⟨k, hk, hy⟩ := List.mem_flatMap.1 hm
      have h1 := wlk_sub h f k x (h.kin x k hk).2 hy
      have := sub_le h hx h1.1
      have := h.dep x k hk
      omega
    · obtain ⟨h1, h2⟩ := wlk_sub h f a z (h.kin x a ha).2 hza
      obtain ⟨h3, _⟩ := wlk_sub h f b z (h.kin x b hb).2 hzb
      exact hab (sub_uniq h (by rw [h.dep x a ha, h.dep x b hb]) (d z) z rfl h2 h1 h3)
theorem wlk_len (h : Lk S K d) (f x : Nat) (hx : (S.at x).isSome = true) : (wlk K f x).length ≤ S.slots.length :=
  nodup_len S.slots.length _ (wlk_nodup h f x hx) (fun y hy => by
    obtain ⟨n, hn⟩ := Option.isSome_iff_exists.1 (wlk_sub h f x y hx hy).2
    exact at_lt hn)
end



end Go.Proofs.YtacdbnhnhdlmpaaGreatDoor.W
end
section
namespace Go.Proofs.YtacdbnhnhdlmpaaGreatDoor.W
open Go
end Go.Proofs.YtacdbnhnhdlmpaaGreatDoor.W
end
