/- Texts joined: Doc MinsP Mob Mrem Mmak AtS Lng TwA. -/
import Derived.Test.YtacdbnhnhdlmpaaGreatDoorFB12
import Derived.Test.YtacdbnhnhdlmpaaGreatDoorFB14
import Derived.Test.YtacdbnhnhdlmpaaGreatDoorFB1
import Derived.Deep.RegionLaw
import Derived.Deep.RegionHeld3
import Derived.LoopTactic
import Derived.BigQuiet
import Derived.Maps.Own
import Derived.Maps.Views
import Derived.StringKeys
import Derived.Test.YtacdbnhnhdlmpaaGreatDoorFB10
set_option maxRecDepth 100000
set_option maxHeartbeats 40000000
set_option linter.unusedVariables false
set_option linter.unusedSimpArgs false
section
namespace Go.Proofs.YtacdbnhnhdlmpaaGreatDoor.W
open Go.RowKit
structure Rc where
  kind : Int
  target : Int
  node : Int
  prev : Int
  next : Int
  index : Int
  name : List UInt8
  old : List UInt8
  had : Bool
  count : Int
  size : Int
def encR (r : Rc) : List Value := recC r.kind r.target r.node r.prev r.next r.index r.name r.old r.had r.count r.size
def trF (R : Nat) (S : Tr) (sv fv : Value) (k : Nat) : Prop := k = R ∨ sv.ownBlock = some k ∨ fv.ownBlock = some k ∨ ∃ i n, S.at i = some n ∧ n.attrs ≠ [] ∧ n.av.ownBlock = some k
theorem attr_blk {B : Nat} {w : World} {v : Value} {l : List Atr} (h : AttrAt B w v l) (hl : l ≠ []) {k : Nat} (hk : v.ownBlock = some k) : ∃ cur, w.heap[k]? = some (.cells cur 85 (0, 0)) := by
  obtain ⟨a, c, rfl, h'⟩ := h
  rcases h' with e | ⟨g, cur, rfl, _, hh, _⟩
  · exact absurd e hl
  · cases hk; exact ⟨cur, hh⟩
theorem trF_ty {R : Nat} {S : Tr} {sv fv : Value} {w : World} (h : TAt 0 R S sv fv w) {k : Nat} (hk : trF R S sv fv k) : ∃ cur t, w.heap[k]? = some (.cells cur t (0, 0)) ∧ t ≠ 152 := by
  rcases hk with rfl | hk | hk | ⟨i, n, hi, hne, hk⟩
  · exact ⟨_, _, h.blk, by decide⟩
  · obtain ⟨cur, hc⟩ := own_ty h.slots hk
    exact ⟨cur, _, hc, by decide⟩
  · obtain ⟨cur, hc⟩ := own_ty h.free hk
    exact ⟨cur, _, hc, by decide⟩
  · obtain ⟨cur, hc⟩ := attr_blk (h.attrs i n (at_slot hi)) hne hk
    exact ⟨cur, _, hc, by decide⟩
def trO (R : Nat) (S : Tr) (sv fv : Value) : Ob where
  P := fun w => TAt 0 R S sv fv w
  F := trF R S sv fv
  here := fun w h k hk => by obtain ⟨cur, t, hc, _⟩ := trF_ty h hk; exact lt_of_block hc
  loc := fun w w' h k => by
    have keep : ∀ {e sz n : Nat} {v : Value} {xs : List Value}, w.ownsRow 0 e sz v n xs → (∀ g, v.ownBlock = some g → trF R S sv fv g) → w'.ownsRow 0 e sz v n xs := fun ho hf => own_kB ho (fun g hg => k g (hf g hg))
    refine ⟨h.blk.kept (k R (.inl rfl)), keep h.slots (fun g hg => .inr (.inl hg)), keep h.free (fun g hg => .inr (.inr (.inl hg))), fun i n hi => ?_, h.base, h.few⟩
    obtain ⟨a, c, e, h'⟩ := h.attrs i n hi
    by_cases hne : n.attrs = []
    · exact ⟨a, c, e, .inl hne⟩
    · rcases h' with e' | ⟨g, cur, e2, hB, hg, hc⟩
      · exact absurd e' hne
      · exact ⟨a, c, e, .inr ⟨g, cur, e2, hB, (k g (.inr (.inr (.inr ⟨i, n, at_of hi, hne, by rw [e, e2]; rfl⟩)))).trans hg, hc⟩⟩
def Keeps (f : Nat → Nd → Nd) : Prop := ∀ x n, (f x n).kind = n.kind ∧ (f x n).av = n.av ∧ (f x n).attrs = n.attrs ∧ (f x n).data = n.data
theorem trF_map {R : Nat} {S S' : Tr} {sv fv : Value} (f : Nat → Nd → Nd) (hf : Keeps f) (hat : ∀ x, S'.at x = (S.at x).map (f x)) (k : Nat) (h : trF R S' sv fv k) : trF R S sv fv k := by
  rcases h with h | h | h | ⟨i, n', hi, hne, hk⟩
  · exact .inl h
  · exact .inr (.inl h)
  · exact .inr (.inr (.inl h))
  · rw [hat] at hi
    obtain ⟨n, hn, rfl⟩ := Option.map_eq_some_iff.1 hi
    obtain ⟨_, h2, h3, _⟩ := hf i n
    exact .inr (.inr (.inr ⟨i, n, hn, by rw [← h3]; exact hne, by rw [← h2]; exact hk⟩))
theorem keeps_link (S : Tr) (l : List Nat) (p j c : Nat) : Keeps (linkN S l p j c) := fun _ _ => ⟨rfl, rfl, rfl, rfl⟩
theorem keeps_cut (S : Tr) (l : List Nat) (p j c : Nat) : Keeps (cutN S l p j c) := fun _ _ => ⟨rfl, rfl, rfl, rfl⟩

theorem own_base' {w : World} {B e size n : Nat} {v : Value} {xs : List Value} (h : Own w e size v n xs) (hb : ∀ k, v.ownBlock = some k → B ≤ k) : w.ownsRow B e size v n xs := by
  obtain ⟨h1, h2⟩ := h
  refine ⟨h1, h2.imp id ?_⟩
  rintro ⟨g, cap, cur, rfl, _, rest⟩
  exact ⟨g, cap, cur, rfl, hb g rfl, rest⟩
theorem attrC_one' (a b : List UInt8) : ∀ u ∈ [Value.string ⟨a.toArray⟩, .string ⟨b.toArray⟩], u.oneCell' = true := by
  intro u hu
  simp only [List.mem_cons, List.not_mem_nil, or_false] at hu
  rcases hu with rfl | rfl <;> rfl
def namesB (al : List Atr) : Bool := al.all (fun a => headB a.1) && decide ((al.map (·.1)).Nodup)
theorem namesB_no1 {al : List Atr} {i : Nat} {y : Atr} (hy : al[i]? = some y) (h : headB y.1 = false) : namesB al = false := by
  unfold namesB
  have : al.all (fun a => headB a.1) = false := by
    rw [List.all_eq_false]
    exact ⟨y, List.mem_of_getElem? hy, by simp [h]⟩
  rw [this]; rfl
theorem namesB_no2 {al : List Atr} {i k : Nat} {y z : Atr} (hy : al[i]? = some y) (hz : al[k]? = some z) (hki : k < i) (h : z.1 = y.1) : namesB al = false := by
  unfold namesB
  have : ¬ (al.map (·.1)).Nodup := fun hn => by
    have h1 : (al.map (·.1))[i]? = some y.1 := by rw [List.getElem?_map, hy]; rfl
    have h2 : (al.map (·.1))[k]? = some y.1 := by rw [List.getElem?_map, hz, ← h]; rfl
    have := (List.getElem?_inj (by have := (List.getElem?_eq_some_iff.1 h2).1; omega) hn).1 (h2.trans h1.symm)
    omega
  rw [decide_eq_false this]; simp
def NmsOk (al : List Atr) (i : Nat) : Prop := ∀ j y, j < i → al[j]? = some y → headB y.1 = true ∧ ∀ k z, k < j → al[k]? = some z → z.1 ≠ y.1
theorem namesB_yes {al : List Atr} (h : NmsOk al al.length) : namesB al = true := by
  unfold namesB
  rw [Bool.and_eq_true]
  constructor
  · rw [List.all_eq_true]
    intro y hy
    obtain ⟨j, hj⟩ := List.mem_iff_getElem?.1 hy
    exact (h j y (List.getElem?_eq_some_iff.1 hj).1 hj).1
  · rw [decide_eq_true_eq, List.nodup_iff_pairwise_ne, List.pairwise_iff_getElem]
    intro k j hk hj hkj
    simp only [List.length_map] at hk hj
    rw [List.getElem_map, List.getElem_map]
    exact (h j al[j] hj (List.getElem?_eq_getElem hj)).2 k al[k] hkj (List.getElem?_eq_getElem hk)
theorem attrC_map (l : List Atr) (i : Nat) (y : Atr) (h : l[i]? = some y) (f : Atr → Atr) : attrC ((l.take (i + 1)).map f) = attrC ((l.take i).map f) ++ atC (f y) := by
  rw [List.take_add_one, h, List.map_append]
  exact attrC_snoc _ _
theorem zeroB (w : World) : (zeroValue 4).run Tryz.prog w = .ok (.bool false) w := by kernel_rfl
noncomputable abbrev pB : Value → Option (DataW Unit × List MemPlace) := plainElem Tryz.prog 4
theorem plainElem_bool_inv {P : Program} {e : TypeId} (he : P.underlying e = some .bool) {v : Value} {z : DataW Unit × List MemPlace} (h : plainElem P e v = some z) : ∃ c, v = .bool c ∧ z = (.lit (.bool c), []) := by
  unfold plainElem at h
  rw [he] at h
  cases v <;> simp at h
  exact ⟨_, rfl, h.symm⟩
theorem lookup_bool {w : World} {b n : Nat} {D : DataW Unit} (h : w.ownsMap Tryz.prog 9 pB b n D) (s : ByteArray) (hs : s.size ≤ maxLen) : ∃ c, (Instr.lookup 197 (.map (some b)) (.string s) false).run Tryz.prog w = .ok (.bool c) w ∧ D.atKey (.string s.data.toList) (.lit (.bool false)) = .lit (.bool c) := by
  obtain ⟨v, ps, hrun, hv⟩ := h.lookup (Maps.string_keyed Tryz.underlying9) Tryz.underlying197 (zeroB w) (plainElem_bool Tryz.underlying4 false) (WideMaps.keyOf_string_mk Tryz.underlying9 hs)
  obtain ⟨c, rfl, hc⟩ := plainElem_bool_inv Tryz.underlying4 hv
  simp only [Prod.mk.injEq] at hc
  exact ⟨c, hrun, hc.1⟩
theorem update_bool {w : World} {b n : Nat} {D : DataW Unit} (h : w.ownsMap Tryz.prog 9 pB b n D) (hn : n ≤ 1000) (s : ByteArray) (hs : s.size ≤ maxLen) : ∃ w', (Instr.mapUpdate 197 (.map (some b)) (.string s) (.bool true)).run Tryz.prog w = .ok () w' ∧ w'.ownsMap Tryz.prog 9 pB b (n + 1) (D.put (.string s.data.toList) (.lit (.bool true))) ∧ w.grownBy w' (some b) :=
  h.update (Maps.string_keyed Tryz.underlying9) Tryz.underlying197 (by unfold maxLen; omega) (WideMaps.keyOf_string_mk Tryz.underlying9 hs) (plainElem_bool Tryz.underlying4 true)
theorem ownsMap_heap {w w' : World} {b n : Nat} {D : DataW Unit} (h : w.ownsMap Tryz.prog 9 pB b n D) (e : w'.heap[b]? = w.heap[b]?) : w'.ownsMap Tryz.prog 9 pB b n D := by
  obtain ⟨es, clock, h1, h2⟩ := h
  exact ⟨es, clock, e.trans h1, h2⟩
theorem ownsMap_below {w w' : World} {b n : Nat} {D : DataW Unit} (h : w.ownsMap Tryz.prog 9 pB b n D) (hb : Below w.heap.size w w') : w'.ownsMap Tryz.prog 9 pB b n D := ownsMap_heap h (hb.block b h.lt)
def Nmd (al : List Atr) (i : Nat) (D : DataW Unit) : Prop := Maps.IsMap D ∧ ∀ s : List UInt8, D.atKey (.string s) (.lit (.bool false)) = .lit (.bool (decide (s ∈ (al.take i).map (·.1))))
theorem Nmd.zero (al : List Atr) : Nmd al 0 (.map []) := ⟨Maps.isMap_empty, fun s => by simp [DataW.atKey]⟩
theorem Nmd.put {al : List Atr} {i : Nat} {D : DataW Unit} (h : Nmd al i D) {y : Atr} (hy : al[i]? = some y) : Nmd al (i + 1) (D.put (.string y.1) (.lit (.bool true))) := by
  refine ⟨h.1.put _ _, fun s => ?_⟩
  have e : (al.take (i + 1)).map (·.1) = (al.take i).map (·.1) ++ [y.1] := by rw [List.take_add_one, hy]; simp
  rw [e]
  by_cases hs : s = y.1
  · subst hs
    rw [Maps.atKey_put_same h.1 (by trivial)]
    simp
  · rw [Maps.atKey_put_other (by intro e2; exact hs (by cases e2; rfl)), h.2 s]
    simp [hs]
def AtL (w : World) (al : List Atr) (iv : Value) (wr : World) : Prop :=
  ∃ (i : Nat) (D : DataW Unit), i ≤ al.length ∧ iv = .int .i64 (i : Int) ∧ NmsOk al i ∧ wr.ownsMap Tryz.prog 9 pB w.heap.size i D ∧ Nmd al i D ∧ Below w.heap.size w wr
set_option maxRecDepth 100000 in
set_option maxHeartbeats 4000000 in
theorem attrs_any (al : List Atr) (hal : al.length ≤ 100) (has : ∀ a ∈ al, a.1.length ≤ 1000 ∧ a.2.length ≤ 1000) (v : Value) (w : World) (hT : Laid w) (hv : Own w 85 2 v al.length (attrC al)) :
    Calls Tryz.prog 108 #[v] w fun e w' => e = .returned (.bool (namesB al)) ∧ Below w.heap.size w w' := by
  have hmm := @run_makeMap Tryz.prog
  have HHd := Lib.hid (fun (a : Atr) (ha : a ∈ al) wx (hx : Below w.heap.size w wx) => attrName_b a.1 (by have := (has a ha).1; omega) wx (hT.below hx))
  have HSz := Lib.hid (fun (a : Atr) (ha : a ∈ al) => (show (⟨a.1.toArray⟩ : ByteArray).size ≤ maxLen from by have := (has a ha).1; unfold maxLen; rw [bsz]; omega))
  obtain ⟨va0, vc0, rfl⟩ := own_shape hv
  have HVc := Lib.hid (fun (j : Nat) (y : Atr) (hy : al[j]? = some y) wx (hb : Below w.heap.size w wx) => (show ∃ ga, va0 = some ⟨ga, 0, none⟩ ∧ ga < w.heap.size ∧ wx.cell? ⟨ga, j * 2, none⟩ = some (.string ⟨y.1.toArray⟩) ∧ wx.cell? ⟨ga, j * 2 + 1, none⟩ = some (.string ⟨y.2.toArray⟩) from by
    have hl := (List.getElem?_eq_some_iff.1 hy).1
    obtain ⟨ga, hga⟩ : ∃ g, va0 = some ⟨g, 0, none⟩ := by
      rcases hv.2 with ⟨e, e2⟩ | ⟨g, cap, cur, e, _⟩
      · omega
      · simp only [Value.slice.injEq] at e; exact ⟨g, e.1⟩
    subst hga
    have ho := own_belowM hv hb
    have h1 := own_news ho (2 * j) _ (attrC_at al j y hy).1
    have h2 := own_news ho (2 * j + 1) _ (attrC_at al j y hy).2
    rw [Go.WideShapes.add_plain, Nat.zero_add] at h1 h2
    exact ⟨ga, rfl, own_lt hv rfl, by rw [Nat.mul_comm]; exact h1, by rw [Nat.mul_comm j]; exact h2⟩))
  clear hv has hT
  go_enter Tryz.func108, Tryz.ntmps108
  go_wp2_with fail
  go_loopw [9] (fun iv wr => AtL w al iv wr) (fun iv _ => al.length - intN iv)
  case atStart => exact ⟨0, .map [], by omega, rfl, fun j y hj => absurd hj (by omega), World.ownsMap_made _ _ _ _, Nmd.zero al, (Below.refl _ _).alloc (Nat.le_refl _) _⟩
  case round =>
    obtain ⟨i, D, hi, rfl, hnm, hown, hnd, hbr⟩ := hrel
    have HNm := Lib.hid hnm
    have HOr := Lib.hid hown
    have HBr := Lib.hid hbr
    have HNd := Lib.hid hnd
    clear hnm hown hnd hbr
    by_cases hil : i < al.length
    · obtain ⟨y, hy⟩ : ∃ y, al[i]? = some y := ⟨_, List.getElem?_eq_getElem hil⟩
      have hym := List.mem_of_getElem? hy
      obtain ⟨ga, rfl, hga, cn, cv⟩ := HVc.out i y hy _ HBr.out
      have HY := Lib.hid hy
      have HYm := Lib.hid hym
      clear hy hym
      go_wp2_with fail
      have hb1 : Below wr.heap.size wr (wr.alloc (.cells #[.string ⟨y.1.toArray⟩, .string ⟨y.2.toArray⟩] 85)) := (Below.refl _ _).alloc (Nat.le_refl _) _
      have hbx := bthen HBr.out hb1
      have k1 := Blk.new wr [.string ⟨y.1.toArray⟩, .string ⟨y.2.toArray⟩] 85
      refine (HHd.out y HYm.out _ hbx).mono ?_
      rintro e w4 ⟨rfl, hb4⟩
      have HB4 := Lib.hid (bthen hbx hb4)
      have k4 := Blk.below k1 hb4
      have HO4 := Lib.hid (ownsMap_below (ownsMap_below HOr.out hb1) hb4)
      have hne : wr.heap.size ≠ w.heap.size := by have := HOr.out.lt; omega
      clear hb4 cn cv HOr HBr hb1 hbx k1
      have c0 := k4.cell 0
      simp only [List.getElem?_cons_zero] at c0
      have K4 := Lib.hid k4
      clear k4
      have hsz := HSz.out y HYm.out
      cases hhd : headB y.1
      · have HN := Lib.hid (namesB_no1 HY.out hhd)
        clear hhd
        go_wp2_with fail
        go_ret
        exact ⟨by rw [HN.out]; rfl, HB4.out⟩
      have HHx := Lib.hid hhd
      clear hhd
      obtain ⟨c, hrun, hat⟩ := lookup_bool HO4.out ⟨y.1.toArray⟩ hsz
      have hat2 := HNd.out.2 y.1
      rw [show (⟨y.1.toArray⟩ : ByteArray).data.toList = y.1 from rfl] at hat
      rw [hat] at hat2
      cases c
      · obtain ⟨w5, hst, ho5, hg5⟩ := update_bool HO4.out (by omega) ⟨y.1.toArray⟩ hsz
        have HAt := Lib.hid hat2
        have HO5 := Lib.hid ho5
        have HB5 := Lib.hid (show Below w.heap.size w w5 from ⟨hg5.os.trans HB4.out.os, hg5.tape.trans HB4.out.tape, hg5.output.trans HB4.out.output, by have := HB4.out.size; have := hg5.size; omega, fun k hk => (hg5.block k (by have := HB4.out.size; omega) (by simp; omega)).trans (HB4.out.block k hk)⟩)
        have c5 : w5.cell? ⟨wr.heap.size, 0, none⟩ = _ := (K4.out.kept (hg5.block _ K4.out.lt (by simpa using hne))).cell 0
        simp only [List.getElem?_cons_zero] at c5
        clear hat hat2 ho5 hg5
        go_wp2_with fail
        refine ⟨⟨i + 1, _, by omega, by simp, ?_, HO5.out, HNd.out.put HY.out, HB5.out⟩, by simp only [intN]; omega⟩
        intro j z hj hz
        by_cases e : j = i
        · subst e
          rw [HY.out] at hz; cases hz
          refine ⟨HHx.out, fun k z hk hz e => ?_⟩
          have := HAt.out
          simp only [DataW.lit.injEq, Lit.bool.injEq] at this
          have hm : y.1 ∈ (al.take j).map (·.1) := List.mem_map.2 ⟨z, List.mem_of_getElem? (by rw [List.getElem?_take, if_pos hk]; exact hz), e⟩
          exact of_decide_eq_false this.symm hm
        · exact HNm.out j z (by omega) hz
      · have HAt := Lib.hid hat2
        clear hat hat2
        go_wp2_with fail
        go_ret
        have hm : y.1 ∈ (al.take i).map (·.1) := by
          have := HAt.out
          simp only [DataW.lit.injEq, Lit.bool.injEq] at this
          exact of_decide_eq_true this.symm
        obtain ⟨z, hz, hzy⟩ := List.mem_map.1 hm
        obtain ⟨k, hk⟩ := List.mem_iff_getElem?.1 hz
        rw [List.getElem?_take] at hk
        by_cases hki : k < i
        · rw [if_pos hki] at hk
          exact ⟨by rw [namesB_no2 HY.out hk hki hzy]; rfl, HB4.out⟩
        · rw [if_neg hki] at hk; cases hk
    · obtain rfl : i = al.length := by omega
      have hn := namesB_yes HNm.out
      go_wp2_with fail
      go_ret
      exact ⟨by rw [hn]; rfl, HBr.out⟩
theorem mk1_any (s : List UInt8) (a : ByteArray) (hs : s.length ≤ 1048576) (w : World) : Calls Tryz.prog 111 #[.agg #[.string a, .string ⟨s.toArray⟩]] w fun e w' => e = .returned (.bool false) ∧ Below w.heap.size w w' := by
  have HL := Lib.hid (fun wx => long_any ⟨s.toArray⟩ (by rw [bsz]; omega) wx)
  have hd : decide (1048576 < (⟨s.toArray⟩ : ByteArray).size) = false := by rw [bsz]; simp; omega
  have c1 := (Blk.new w [.string a, .string ⟨s.toArray⟩] 85).cell 1
  simp only [List.getElem?_cons_succ, List.getElem?_cons_zero] at c1
  go_enter Tryz.func111, Tryz.ntmps111
  go_wp2_with fail
  refine (HL.out _).mono ?_
  rintro e w2 ⟨rfl, rfl⟩
  rw [hd]
  go_wp2_with fail
  go_ret
  exact ⟨rfl, (Below.refl _ _).alloc (Nat.le_refl _) _⟩
set_option maxRecDepth 100000 in
set_option maxHeartbeats 2000000 in
theorem index_lng {B : Nat} {w : World} {v : Value} {l : List (List UInt8 × List UInt8)} (h : AttrAt B w v l) (hl : l.length ≤ 1000) (has : ∀ a ∈ l, a.2.length ≤ 1048576) :
    Calls Tryz.prog 134 #[v, .func (.func 111) #[] #[]] w fun e w' => e = .returned (.int .i64 (-1)) ∧ Below w.heap.size w w' := by
  obtain ⟨va, vc, rfl, hcs⟩ := h
  have HC := Lib.hid hcs
  have HA := Lib.hid has
  clear hcs has
  go_enter Tryz.func134, Tryz.ntmps134
  go_wp2_with fail
  go_loopw [8] (fun iv wr => ∃ k : Nat, k ≤ l.length ∧ iv = .int .i64 (k : Int) ∧ Below w.heap.size w wr) (fun iv _ => l.length - intN iv)
  case atStart => exact ⟨0, Nat.zero_le _, rfl, Below.refl _ _⟩
  case round =>
    obtain ⟨k, hk, rfl, hB⟩ := hrel
    by_cases hkl : k < l.length
    · obtain ⟨y, hy⟩ : ∃ y, l[k]? = some y := ⟨_, List.getElem?_eq_getElem hkl⟩
      rcases HC.out with rfl | ⟨vg, cur, rfl, _, hgg, hcc⟩
      · simp at hkl
      have hgl := lt_of_block hgg
      have q0 : wr.cell? ⟨vg, k * 2, none⟩ = some (strV y.1) := by
        rw [hB.cell (p := ⟨vg, k * 2, none⟩) hgl, show k * 2 = 2 * k by omega]
        rw [Lib.cell_of_heap hgg]
        exact (hcc k y hy).1
      have q1 : wr.cell? ⟨vg, k * 2 + 1, none⟩ = some (strV y.2) := by
        rw [hB.cell (p := ⟨vg, k * 2 + 1, none⟩) hgl, show k * 2 + 1 = 2 * k + 1 by omega]
        rw [Lib.cell_of_heap hgg]
        exact (hcc k y hy).2
      have HP1 := Lib.hid (mk1_any y.2 ⟨y.1.toArray⟩ (HA.out y (List.mem_of_getElem? hy)) wr)
      clear hy hgg hcc
      simp only [strV] at q0 q1
      go_wp2_with fail
      refine HP1.out.mono ?_
      rintro e w2 ⟨rfl, hb2⟩
      go_wp2_with fail
      exact ⟨⟨k + 1, by omega, by go_num, hB.trans (hb2.mono hB.size)⟩, by simp only [intN]; omega⟩
    · go_wp2_with fail
      go_ret
      exact ⟨rfl, hB⟩
theorem contains_lng {B : Nat} {w : World} {v : Value} {l : List (List UInt8 × List UInt8)} (h : AttrAt B w v l) (hl : l.length ≤ 1000) (has : ∀ a ∈ l, a.2.length ≤ 1048576) :
    Calls Tryz.prog 110 #[v, .func (.func 111) #[] #[]] w fun e w' => e = .returned (.bool false) ∧ Below w.heap.size w w' := by
  have H := Lib.hid (index_lng h hl has)
  clear h
  go_enter Tryz.func110, Tryz.ntmps110
  go_wp2_with fail
  refine H.out.mono ?_
  rintro e w' ⟨rfl, hw⟩
  go_wp2_with fail
  go_ret
  exact ⟨rfl, hw⟩
structure NdOk (c : Nat) (n : Nd) : Prop where
  kd : n.kind = 1 ∨ n.kind = 2 ∨ n.kind = 3 ∨ n.kind = 4
  el : n.kind = 2 → n.data = [] ∧ elmB n.name = true
  tx : n.kind = 3 ∨ n.kind = 4 → n.name = [] ∧ n.attrs = [] ∧ Lib.validD n.data = true
  dc : n.kind = 1 → n.name = [] ∧ n.data = [] ∧ n.attrs = []
  at_ : ∀ a ∈ n.attrs, headB a.1 = true ∧ Lib.validD a.2 = true ∧ a.1.length ≤ 200 ∧ a.2.length ≤ 200
  nd : (n.attrs.map (·.1)).Nodup
  al : n.attrs.length ≤ 64
  dl : n.data.length ≤ 200 * (c + 1)
  nl : n.name.length ≤ 200
def FamOk (S : Tr) (l : List Nat) (np : Nd) : Prop :=
  l = [] ∨ np.kind = 2 ∨ (np.kind = 1 ∧ (∀ k n, k ∈ l → S.at k = some n → n.kind = 2 ∨ n.kind = 4) ∧
    ∀ k k' n n', k ∈ l → k' ∈ l → S.at k = some n → S.at k' = some n' → n.kind = 2 → n'.kind = 2 → k = k')
structure TrOk (c : Nat) (S : Tr) (K : Nat → List Nat) (d : Nat → Nat) : Prop where
  lk : Lk S K d
  nd : ∀ x n, S.at x = some n → NdOk c n
  fam : ∀ p np, S.at p = some np → FamOk S (K p) np
  fr : ∀ i ∈ S.free, S.slots[i]? = some none
  frnd : S.free.Nodup
  root : S.root = S.hd 0
  doc : ∃ n, S.at 0 = some n ∧ n.kind = 1
  other : ∀ x n, S.at x = some n → x ≠ 0 → n.kind ≠ 1
  nodoc : ∀ p, 0 ∉ K p
section
variable {ex : Prop} {E : Nat → Prop} {c : Nat} {S : Tr} {K : Nat → List Nat} {d : Nat → Nat} {M : List MN} {σ : Nat → Nat}
theorem may_kinds {p k : Nat} {np nc : Nd} (h : mayB S K d p k np nc = true) : nc.kind ≠ 1 ∧ (np.kind = 2 ∨ (np.kind = 1 ∧ (nc.kind = 4 ∨ (nc.kind = 2 ∧ ∀ x n, x ∈ K p → x ≠ k → S.at x = some n → n.kind ≠ 2)))) := by
  unfold mayB at h
  split at h
  · cases h
  · rename_i h1
    have h1' : nc.kind ≠ 1 := fun e => h1 (by simp [e])
    refine ⟨h1', ?_⟩
    split at h
    · rename_i h2
      simp at h2
      rcases h2 with h2 | h2
      · exact .inl h2
      · exact .inr ⟨h2.1, .inl h2.2⟩
    · split at h
      · cases h
      · rename_i h3
        simp at h3
        refine .inr ⟨h3.1, .inr ⟨h3.2, fun x n hx hxk hn e => ?_⟩⟩
        rw [Bool.not_eq_true', List.any_eq_false] at h
        refine h x hx ?_
        unfold elemB
        simp [hn, e, hxk]
theorem FamOk.sub {S' : Tr} {l l' : List Nat} {np np' : Nd} (h : FamOk S l np) (hk : np'.kind = np.kind) (hs : ∀ k, k ∈ l' → k ∈ l) (hat : ∀ k n', S'.at k = some n' → ∃ n, S.at k = some n ∧ n.kind = n'.kind) : FamOk S' l' np' := by
  rcases h with h | h | ⟨h1, h2, h3⟩
  · subst h
    refine .inl (List.eq_nil_iff_forall_not_mem.2 fun k hk => by cases hs k hk)
  · exact .inr (.inl (hk.trans h))
  · refine .inr (.inr ⟨hk.trans h1, fun k n' hk' hn' => ?_, fun k k' n n' h4 h5 h6 h7 h8 h9 => ?_⟩)
    · obtain ⟨n, h4, h5⟩ := hat k n' hn'
      rw [← h5]; exact h2 k n (hs k hk') h4
    · obtain ⟨m, h10, h11⟩ := hat k n h6
      obtain ⟨m', h12, h13⟩ := hat k' n' h7
      exact h3 k k' m m' (hs k h4) (hs k' h5) h10 h12 (h11.trans h8) (h13.trans h9)
theorem FamOk.add {S' : Tr} {l' : List Nat} {p x : Nat} {np np' nc : Nd} (h : FamOk S (K p) np) (hm : mayB S K d p x np nc = true) (hc : S.at x = some nc) (hk : np'.kind = np.kind) (hs : ∀ k, k ∈ l' → k = x ∨ k ∈ K p) (hat : ∀ k n', S'.at k = some n' → ∃ n, S.at k = some n ∧ n.kind = n'.kind) : FamOk S' l' np' := by
  obtain ⟨h1, h2 | ⟨h2, h3⟩⟩ := may_kinds hm
  · exact .inr (.inl (hk.trans h2))
  · have hx : ∀ n', S'.at x = some n' → n'.kind = nc.kind := fun n' e => by
      obtain ⟨n, h4, h5⟩ := hat x n' e
      rw [hc] at h4; cases h4; exact h5.symm
    have hold : ∀ k n, k ∈ K p → S.at k = some n → n.kind = 2 ∨ n.kind = 4 := fun k n hk1 hn => by
      rcases h with h | h | ⟨_, h4, _⟩
      · rw [h] at hk1; cases hk1
      · omega
      · exact h4 k n hk1 hn
    have huq : ∀ k k' n n', k ∈ K p → k' ∈ K p → S.at k = some n → S.at k' = some n' → n.kind = 2 → n'.kind = 2 → k = k' := fun k k' n n' hk1 hk2 => by
      rcases h with h | h | ⟨_, _, h4⟩
      · rw [h] at hk1; cases hk1
      · omega
      · exact h4 k k' n n' hk1 hk2
    have hno : nc.kind = 2 → ∀ k n, k ∈ K p → k ≠ x → S.at k = some n → n.kind ≠ 2 := fun e k n hk1 hne hn => by
      rcases h3 with h3 | ⟨_, h3⟩
      · omega
      · exact h3 k n hk1 hne hn
    refine .inr (.inr ⟨hk.trans h2, fun k n' hk' hn' => ?_, fun k k' n n' h4 h5 h6 h7 h8 h9 => ?_⟩)
    · by_cases e : k = x
      · subst e; rw [hx n' hn']; omega
      · obtain ⟨n, h4, h5⟩ := hat k n' hn'
        rw [← h5]
        exact hold k n ((hs k hk').resolve_left e) h4
    · obtain ⟨m, h10, h11⟩ := hat k n h6
      obtain ⟨m', h12, h13⟩ := hat k' n' h7
      by_cases e : k = x
      · by_cases e' : k' = x
        · rw [e, e']
        · subst e
          have := hno ((hx n h6).symm.trans h8) k' m' ((hs k' h5).resolve_left e') e' h12
          omega
      · by_cases e' : k' = x
        · subst e'
          have := hno ((hx n' h7).symm.trans h9) k m ((hs k h4).resolve_left e) e h10
          omega
        · exact huq k k' m m' ((hs k h4).resolve_left e) ((hs k' h5).resolve_left e') h10 h12 (h11.trans h8) (h13.trans h9)
end
end Go.Proofs.YtacdbnhnhdlmpaaGreatDoor.W
end
