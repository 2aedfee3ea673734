/- Texts joined: TwB AddF Clear Del DropA SetB. -/
import Derived.Test.YtacdbnhnhdlmpaaGreatDoorFB15
import Derived.Test.YtacdbnhnhdlmpaaGreatDoorFB1
import Derived.RegionTactic
import Derived.BigRegion
import Derived.Laws.IdiomCopy
import Derived.Test.YtacdbnhnhdlmpaaGreatDoorFB12
import Derived.Deep.RegionLaw
import Derived.Shelf.RegionOpenPlain
import Derived.Test.YtacdbnhnhdlmpaaGreatDoorFB14
set_option maxRecDepth 100000
set_option maxHeartbeats 40000000
set_option linter.unusedVariables false
set_option linter.unusedSimpArgs false
section
namespace Go.Proofs.YtacdbnhnhdlmpaaGreatDoor.W
open Go.RowKit
def Tr.addI (S : Tr) : Nat := (S.free.getLast?).getD S.slots.length
def Tr.add (S : Tr) (n : Nd) : Tr := match S.free.getLast? with
  | none => S.snoc n
  | some i => { S with slots := S.slots.set i (some n), free := S.free.dropLast }
structure Added (S S' : Tr) (s : Nat) (n : Nd) : Prop where
  at_ : ∀ x, S'.at x = if x = s then some n else S.at x
  no : S.at s = none
  len : S.slots.length ≤ S'.slots.length ∧ S'.slots.length ≤ S.slots.length + 1 ∧ s < S'.slots.length
  eb : S'.b = S.b
  es : S'.s = S.s
  root : S'.root = S.root
  free : ∀ i ∈ S'.free, i ∈ S.free ∧ i ≠ s
  frnd : S.free.Nodup → S'.free.Nodup
  slot : ∀ i, i ≠ s → i < S.slots.length → S'.slots[i]? = S.slots[i]?
theorem added_of {S : Tr} (hf : ∀ i ∈ S.free, S.slots[i]? = some none) (hn : S.free.Nodup) (n : Nd) : Added S (S.add n) S.addI n := by
  unfold Tr.add Tr.addI
  cases e : S.free.getLast? with
  | none =>
    have e' : S.free = [] := by simpa using e
    simp only [Option.getD_none]
    refine ⟨at_snoc S n, at_none_ge (Nat.le_refl _), by rw [snoc_len]; omega, rfl, rfl, rfl, fun i hi => ?_, id, fun i hi hl => ?_⟩
    · have : i ∈ S.free := hi
      rw [e'] at this; cases this
    · show (S.slots ++ [some n])[i]? = _
      rw [List.getElem?_append_left hl]
  | some i =>
    have hi := hf i (List.mem_of_getLast? e)
    have hil := (List.getElem?_eq_some_iff.1 hi).1
    simp only [Option.getD_some]
    have hsplit : S.free = S.free.dropLast ++ [i] := by
      obtain ⟨ys, h2⟩ := List.getLast?_eq_some_iff.1 e
      rw [h2]; simp
    refine ⟨fun x => ?_, ?_, by simp only [List.length_set]; omega, rfl, rfl, rfl, fun k hk => ?_, fun h => h.sublist (List.dropLast_sublist _), fun k hk hl => ?_⟩
    · show ((S.slots.set i (some n))[x]?).join = _
      rw [List.getElem?_set]
      by_cases h : i = x
      · subst h; rw [if_pos rfl, if_pos hil, if_pos rfl]; rfl
      · rw [if_neg h, if_neg (fun h' => h h'.symm)]; rfl
    · unfold Tr.at; rw [hi]; rfl
    · have hk' : k ∈ S.free.dropLast := hk
      refine ⟨(List.dropLast_sublist _).subset hk', ?_⟩
      rintro rfl
      rw [hsplit, List.nodup_append] at hn
      exact hn.2.2 k hk' k (by simp) rfl
    · show (S.slots.set i (some n))[k]? = _
      rw [List.getElem?_set_ne (fun h => hk h.symm)]
theorem Added.hd {S S' : Tr} {s : Nat} {n : Nd} (h : Added S S' s n) (x : Nat) : S'.hd x = S.hd x := by unfold Tr.hd; rw [h.eb, h.es]
theorem Added.hO {S S' : Tr} {s : Nat} {n : Nd} (h : Added S S' s n) (o : Option Nat) : Go.Proofs.YtacdbnhnhdlmpaaGreatDoor.W.hO S' o = Go.Proofs.YtacdbnhnhdlmpaaGreatDoor.W.hO S o := by cases o with
  | none => rfl
  | some x => exact h.hd x
def dAdd (d : Nat → Nat) (s : Nat) (x : Nat) : Nat := if x = s then 1 else d x
theorem Lk.added {S S' : Tr} {K d} (h : Lk S K d) {s : Nat} {n : Nd} (k : Added S S' s n) (h1 : n.parent = 0) (h2 : n.first = 0) (h3 : n.last = 0) (h4 : n.prev = 0) (h5 : n.next = 0) (hl : S.slots.length < 1000000) : Lk S' K (dAdd d s) := by
  have hks : K s = [] := h.no_kids k.no
  have hnp : ∀ p, s ∉ K p := fun p => h.no_par k.no p
  have hat : ∀ x, x ≠ s → S'.at x = S.at x := fun x hx => by rw [k.at_, if_neg hx]
  have hne : ∀ p q, q ∈ K p → q ≠ s := fun p q hq e => hnp p (e ▸ hq)
  have hpe : ∀ p q, q ∈ K p → p ≠ s := fun p q hq e => by rw [e, hks] at hq; cases hq
  have hats : S'.at s = Option.some n := by rw [k.at_, if_pos rfl]
  refine ⟨fun p q hq => ?_, fun i m hi => ?_, fun p j q m hj hm => ?_, fun i m hi hp => ?_, h.nodup, fun p q hq => ?_, fun i hi hp => ?_, fun i => ?_, by have := k.len; omega⟩
  · rw [hat p (hpe p q hq), hat q (hne p q hq)]; exact h.kin p q hq
  · by_cases e : i = s
    · subst e
      rw [hats] at hi; cases hi
      rw [h2, h3, hks]; exact ⟨rfl, rfl⟩
    · rw [hat i e] at hi
      rw [k.hO, k.hO]; exact h.node i m hi
  · have hq := List.mem_of_getElem? hj
    rw [hat q (hne p q hq)] at hm
    rw [k.hd, k.hO, k.hO]; exact h.kid p j q m hj hm
  · by_cases e : i = s
    · subst e
      rw [hats] at hi; cases hi
      exact ⟨h1, h4, h5⟩
    · rw [hat i e] at hi
      exact h.top i m hi hp
  · unfold dAdd
    rw [if_neg (hne p q hq), if_neg (hpe p q hq)]; exact h.dep p q hq
  · unfold dAdd
    by_cases e : i = s
    · rw [if_pos e]
    · rw [if_neg e]; rw [hat i e] at hi; exact h.one i hi hp
  · unfold dAdd
    have := h.low i
    split <;> omega
section
variable {ex : Prop} {E : Nat → Prop} {c : Nat} {S S' : Tr} {K : Nat → List Nat} {d : Nat → Nat} {M : List MN} {σ : Nat → Nat}
theorem TrOk.added (T : TrOk c S K d) {s : Nat} {n : Nd} (k : Added S S' s n) (h1 : n.parent = 0) (h2 : n.first = 0) (h3 : n.last = 0) (h4 : n.prev = 0) (h5 : n.next = 0) (hl : S.slots.length < 1000000) (hn : NdOk c n) (hk : n.kind ≠ 1) : TrOk c S' K (dAdd d s) := by
  have hs0 : s ≠ 0 := fun e => by
    obtain ⟨n0, h0, _⟩ := T.doc
    have := k.no
    rw [e, h0] at this; cases this
  refine ⟨T.lk.added k h1 h2 h3 h4 h5 hl, fun x m hx => ?_, fun p np hp => ?_, fun i hi => ?_, k.frnd T.frnd, by rw [k.root, k.hd]; exact T.root, ?_, fun x m hx h0 => ?_, T.nodoc⟩
  · rw [k.at_] at hx
    by_cases e : x = s
    · rw [if_pos e] at hx; cases hx; exact hn
    · rw [if_neg e] at hx; exact T.nd x m hx
  · rw [k.at_] at hp
    by_cases e : p = s
    · exact .inl (by rw [e]; exact T.lk.no_kids k.no)
    · rw [if_neg e] at hp
      rcases T.fam p np hp with h | h | ⟨h6, h7, h8⟩
      · exact .inl h
      · exact .inr (.inl h)
      · have hin : ∀ q m, q ∈ K p → S'.at q = some m → S.at q = some m := fun q m hq hm => by
          rw [k.at_, if_neg (fun (e2 : q = s) => T.lk.no_par k.no p (e2 ▸ hq))] at hm; exact hm
        exact .inr (.inr ⟨h6, fun q m hq hm => h7 q m hq (hin q m hq hm), fun q q' m m' a1 a2 a3 a4 => h8 q q' m m' a1 a2 (hin q m a1 a3) (hin q' m' a2 a4)⟩)
  · obtain ⟨h6, h7⟩ := k.free i hi
    have := T.fr i h6
    rw [k.slot i h7 (List.getElem?_eq_some_iff.1 this).1]; exact this
  · obtain ⟨n0, h0, h6⟩ := T.doc
    exact ⟨n0, by rw [k.at_, if_neg (fun e => hs0 e.symm)]; exact h0, h6⟩
  · rw [k.at_] at hx
    by_cases e : x = s
    · rw [if_pos e] at hx; cases hx; exact hk
    · rw [if_neg e] at hx; exact T.other x m hx h0
/-! ### links -/
/-! ### contents -/
theorem TrOk.map (T : TrOk c S K d) {K' : Nat → List Nat} {d' : Nat → Nat} (f : Nat → Nd → Nd) (hf : Keeps f) (hnm : ∀ x n, (f x n).name = n.name) (hat : ∀ x, S'.at x = (S.at x).map (f x)) (hb : S'.b = S.b) (hs : S'.s = S.s) (hfr : S'.free = S.free) (hr : S'.root = S.root) (hl : S'.slots.length = S.slots.length) (hL : Lk S' K' d')
    (hfam : ∀ p np, S.at p = some np → FamOk S' (K' p) (f p np)) (hz : ∀ p, 0 ∉ K' p) : TrOk c S' K' d' := by
  have back : ∀ {i n'}, S'.at i = some n' → ∃ n, S.at i = some n ∧ n' = f i n := fun {i n'} hi => by
    rw [hat] at hi
    obtain ⟨n, hn, rfl⟩ := Option.map_eq_some_iff.1 hi
    exact ⟨n, hn, rfl⟩
  refine ⟨hL, fun x n' hx => ?_, fun p n' hp => ?_, fun i hi => ?_, by rw [hfr]; exact T.frnd, by rw [hr]; unfold Tr.hd; rw [hb, hs]; exact T.root, ?_, fun x n' hx h0 => ?_, hz⟩
  · obtain ⟨n, hn, rfl⟩ := back hx
    obtain ⟨k1, k2, k3, k4⟩ := hf x n
    have h := T.nd x n hn
    exact ⟨by rw [k1]; exact h.kd, by rw [k1, k4, hnm]; exact h.el, by rw [k1, k4, hnm, k3]; exact h.tx, by rw [k1, k4, hnm, k3]; exact h.dc, by rw [k3]; exact h.at_, by rw [k3]; exact h.nd, by rw [k3]; exact h.al, by rw [k4]; exact h.dl, by rw [hnm]; exact h.nl⟩
  · obtain ⟨n, hn, rfl⟩ := back hp
    exact hfam p n hn
  · rw [hfr] at hi
    have h1 := T.fr i hi
    have h2 : S.at i = none := by unfold Tr.at; rw [h1]; rfl
    have h3 : S'.at i = none := by rw [hat, h2]; rfl
    have h4 : i < S'.slots.length := by rw [hl]; exact (List.getElem?_eq_some_iff.1 h1).1
    unfold Tr.at at h3
    rw [List.getElem?_eq_getElem h4] at h3 ⊢
    generalize S'.slots[i] = y at h3 ⊢
    cases y with
    | none => rfl
    | some n => cases h3
  · obtain ⟨n0, h1, h2⟩ := T.doc
    exact ⟨f 0 n0, by rw [hat, h1]; rfl, by rw [(hf 0 n0).1]; exact h2⟩
  · obtain ⟨n, hn, rfl⟩ := back hx
    rw [(hf x n).1]; exact T.other x n hn h0
end
theorem rowC_cons (x : Option Nd) (l : List (Option Nd)) : rowC (x :: l) = slotC x ++ rowC l := by unfold rowC; rw [List.flatMap_cons]
theorem rowC_put (l : List (Option Nd)) (i : Nat) (x : Option Nd) (hi : i < l.length) : rowC (l.set i x) = setAll (rowC l) (i * 10) (slotC x) := by
  induction l generalizing i with
  | nil => simp at hi
  | cons y l ih =>
    cases i with
    | zero =>
      rw [List.set_cons_zero, rowC_cons, rowC_cons, Nat.zero_mul]
      exact (setAll_head (slotC y) (slotC x) (rowC l) (by rw [slotC_len, slotC_len])).symm
    | succ i =>
      rw [List.set_cons_succ, rowC_cons, rowC_cons, ih i (by simpa using hi)]
      have := setAll_skip (slotC y) (rowC l) (slotC x) (i * 10)
      rw [slotC_len] at this
      rw [show (i + 1) * 10 = 10 + i * 10 by omega]
      exact this.symm
theorem own_baseB {w : World} {B e size n : Nat} {v : Value} {xs : List Value} (h : Own w e size v n xs) (hb : ∀ k, v.ownBlock = some k → B ≤ k) : w.ownsRow B e size v n xs := by
  obtain ⟨h1, h2⟩ := h
  refine ⟨h1, h2.imp id ?_⟩
  rintro ⟨g, cap, cur, rfl, _, rest⟩
  exact ⟨g, cap, cur, rfl, hb g rfl, rest⟩
theorem own_popB {w : World} {B e size g n cap : Nat} {xs : List Value} (h : w.ownsRow B e size (.slice (some ⟨g, 0, none⟩) (n + 1) cap) (n + 1) xs) : w.ownsRow B e size (.slice (some ⟨g, 0, none⟩) n cap) n (xs.take (n * size)) := by
  have hb := (h.lt g rfl).1
  have h0 : Own w e size (.slice (some ⟨g, 0, none⟩) (n + 1) cap) (n + 1) xs := own_low h (Nat.zero_le _)
  have h1 := own_pop h0
  refine own_baseB h1 (fun k hk => by cases hk; exact hb)
theorem live_fill : ∀ (l : List (Option Nd)) (i : Nat) (n : Nd), l[i]? = some none → ((l.set i (some n)).filter Option.isSome).length = (l.filter Option.isSome).length + 1
  | [], i, n, h => by simp at h
  | x :: l, 0, n, h => by
    simp at h; subst h
    simp
  | x :: l, i + 1, n, h => by
    have ih := live_fill l i n (by simpa using h)
    rw [List.set_cons_succ]
    cases x with
    | none => simpa using ih
    | some y => simpa using ih
set_option maxRecDepth 100000 in
set_option maxHeartbeats 4000000 in
theorem add_old {B R g cap i : Nat} {S : Tr} {F : List Nat} {fv : Value} {w : World} (h : TAt B R S (.slice (some ⟨g, 0, none⟩) S.slots.length cap) fv w) (hF : S.free = F ++ [i]) (hi : S.slots[i]? = some none) (n : Nd) (hn : AttrAt B w n.av n.attrs) (hfl : F.length ≤ 1000000) :
    Calls Tryz.prog 106 #[.pointer (some ⟨R, 0, none⟩), .agg #[.int .i64 n.kind, .string ⟨n.name.toArray⟩, n.av, .string ⟨n.data.toArray⟩, .int .i64 n.parent, .int .i64 n.first, .int .i64 n.last, .int .i64 n.prev, .int .i64 n.next]] w fun e w' => ∃ fv', e = .returned (.int .i64 (S.hd i)) ∧
      TAt B R { S with slots := S.slots.set i (some n), free := F } (.slice (some ⟨g, 0, none⟩) S.slots.length cap) fv' w' ∧ Chg (fun k => k = R ∨ k = g) w w' ∧ fv'.ownBlock = fv.ownBlock := by
  have c0 := h.blk.cell 0
  have c1 := h.blk.cell 1
  have c2 := h.blk.cell 2
  have c3 := h.blk.cell 3
  have c4 := h.blk.cell 4
  have hlt := h.blk.lt
  simp only [List.getElem?_cons_succ, List.getElem?_cons_zero] at c0 c1 c2 c3 c4
  have hfr := h.free
  rw [hF, List.length_append, List.length_singleton] at hfr
  obtain ⟨fg, fcap, hfv, hfc⟩ : ∃ fg fcap, fv = .slice (some ⟨fg, 0, none⟩) (F.length + 1) fcap ∧ F.length + 1 ≤ fcap := by
    rcases hfr.2 with ⟨_, e⟩ | ⟨fg, fcap, cur, e, _, _, hc, _⟩
    · omega
    · exact ⟨fg, fcap, e, hc⟩
  subst hfv
  have hil := (List.getElem?_eq_some_iff.1 hi).1
  have hfew := h.few
  have ci : w.cell? ⟨fg, F.length, none⟩ = some (.int .i64 (i : Int)) := by
    have := hfr.cells (g := fg) rfl F.length (.int .i64 (i : Int)) (by simp)
    rw [Go.WideShapes.add_plain, Nat.zero_add] at this
    exact this
  have hlv : S.live ≤ S.slots.length := List.length_filter_le _ _
  obtain ⟨av, acap, hav, _⟩ := id hn
  have hB1 := (Below.refl w.heap.size w).alloc (Nat.le_refl _) (.cells #[.int .i64 n.kind, .string ⟨n.name.toArray⟩, n.av, .string ⟨n.data.toArray⟩, .int .i64 n.parent, .int .i64 n.first, .int .i64 n.last, .int .i64 n.prev, .int .i64 n.next] 135)
  have hbx := Blk.new w [.int .i64 n.kind, .string ⟨n.name.toArray⟩, n.av, .string ⟨n.data.toArray⟩, .int .i64 n.parent, .int .i64 n.first, .int .i64 n.last, .int .i64 n.prev, .int .i64 n.next] 135
  have nb : R ≠ w.heap.size := by omega
  have hgw := (h.slots.lt g rfl).2
  have hfw := (hfr.lt fg rfl).2
  have hRg : R ≠ g := fun e => by
    obtain ⟨cur, hc⟩ := own_ty h.slots (g := g) rfl
    subst e
    exact blk_ne hc h.blk (by decide) rfl
  have hRf : R ≠ fg := fun e => by
    obtain ⟨cur, hc⟩ := own_ty h.free (g := fg) rfl
    subst e
    exact blk_ne hc h.blk (by decide) rfl
  have hgf : g ≠ fg := fun e => by
    obtain ⟨cur, hc⟩ := own_ty h.free (g := fg) rfl
    obtain ⟨cur', hc'⟩ := own_ty h.slots (g := g) rfl
    subst e
    exact blk_ne hc hc' (by decide) rfl
  have HT := Lib.hid h
  have HN := Lib.hid hn
  have HFr := Lib.hid hfr
  have HHi := Lib.hid hi
  have HF := Lib.hid hF
  rw [hav] at hB1 hbx ⊢
  clear hn h hfr hi hF
  go_enter Tryz.func106, Tryz.ntmps106
  go_upto_region 1 with fail
  generalize w.alloc (.cells #[.int .i64 n.kind, .string ⟨n.name.toArray⟩, .slice av n.attrs.length acap, .string ⟨n.data.toArray⟩, .int .i64 n.parent, .int .i64 n.first, .int .i64 n.last, .int .i64 n.prev, .int .i64 n.next] 135) = W at *
  have e0 := cell_keep hB1 c0
  have e1 := cell_keep hB1 c1
  have e2 := cell_keep hB1 c2
  have e3 := cell_keep hB1 c3
  have e4 := cell_keep hB1 c4
  have ei := cell_keep hB1 ci
  have zR := (HT.out.below hB1).blk.free
  clear c0 c1 c2 c3 c4 ci
  go_upto_region 6 with fail
  have hT1 := HT.out.below hB1
  have kR := hT1.blk.set 3 (.slice (some ⟨fg, 0, none⟩) F.length fcap)
  simp only [List.set_cons_succ, List.set_cons_zero] at kR
  have kX : Blk (W.setCell ⟨R, 3, none⟩ (.slice (some ⟨fg, 0, none⟩) F.length fcap)) w.heap.size _ _ := hbx.setOther ⟨R, 3, none⟩ (fun e => nb e.symm) _
  have hch1 : Chg (fun k => k = R ∨ k = g) w (W.setCell ⟨R, 3, none⟩ (.slice (some ⟨fg, 0, none⟩) F.length fcap)) := (Chg.of_below hB1).setCell ⟨R, 3, none⟩ (fun _ => .inl rfl) _
  have hs1 : (W.setCell ⟨R, 3, none⟩ (.slice (some ⟨fg, 0, none⟩) F.length fcap)).ownsRow B 182 10 (.slice (some ⟨g, 0, none⟩) S.slots.length cap) S.slots.length (rowC S.slots) :=
    own_kB hT1.slots (fun b hb => Below.heap_setCell _ _ _ _ (by cases hb; exact fun e => hRg e.symm))
  have HR1 := Lib.hid kR
  have HX1 := Lib.hid kX
  have HC1 := Lib.hid hch1
  have HS1 := Lib.hid hs1
  clear kR kX hch1 hs1 zR hT1 hbx e0 e1 e2 e3 e4 ei
  generalize W.setCell ⟨R, 3, none⟩ (.slice (some ⟨fg, 0, none⟩) F.length fcap) = w1 at *
  have r0 := HR1.out.cell 0
  have r2 := HR1.out.cell 2
  have x0 := HX1.out.cell 0
  have x1 := HX1.out.cell 1
  have x2 := HX1.out.cell 2
  have x3 := HX1.out.cell 3
  have x4 := HX1.out.cell 4
  have x5 := HX1.out.cell 5
  have x6 := HX1.out.cell 6
  have x7 := HX1.out.cell 7
  have x8 := HX1.out.cell 8
  simp only [List.getElem?_cons_succ, List.getElem?_cons_zero] at r0 r2 x0 x1 x2 x3 x4 x5 x6 x7 x8
  have sc : ∀ j, j < 10 → w1.cell? ⟨g, i * 10 + j, none⟩ = (slotC none)[j]? := fun j hj => by
    have hl : j < (slotC none).length := by rw [slotC_len]; exact hj
    rw [List.getElem?_eq_getElem hl]
    have := HS1.out.cells (g := g) rfl (i * 10 + j) (slotC none)[j] (by rw [rowC_at _ _ _ HHi.out _ hj, List.getElem?_eq_getElem hl])
    rw [Go.WideShapes.add_plain, Nat.zero_add] at this
    exact this
  have s0 := sc 0 (by omega)
  have s1 := sc 1 (by omega)
  have s2 := sc 2 (by omega)
  have s3 := sc 3 (by omega)
  have s4 := sc 4 (by omega)
  have s5 := sc 5 (by omega)
  have s6 := sc 6 (by omega)
  have s7 := sc 7 (by omega)
  have s8 := sc 8 (by omega)
  have s9 := sc 9 (by omega)
  simp only [slotC, zeroC, strV, List.getElem?_cons_succ, List.getElem?_cons_zero, Nat.add_zero] at s0 s1 s2 s3 s4 s5 s6 s7 s8 s9
  have sz : ∀ j, w1.frozen? ⟨g, j, none⟩ = false := fun j => by
    rcases HS1.out.2 with ⟨e, _⟩ | ⟨g', cap', cur, e, _, hh, _⟩
    · cases e
    · cases e; exact Lib.frozen_of_heap hh _
  clear sc
  go_region
  have hrow2 := (own_setB (own_setB (own_setB (own_setB (own_setB (own_setB (own_setB (own_setB (own_setB (own_setB HS1.out (i * 10) (.bool true)) (i * 10 + 1) (.int .i64 n.kind)) (i * 10 + 2) (.string ⟨n.name.toArray⟩)) (i * 10 + 3) (.slice av n.attrs.length acap)) (i * 10 + 4) (.string ⟨n.data.toArray⟩)) (i * 10 + 5) (.int .i64 n.parent)) (i * 10 + 6) (.int .i64 n.first)) (i * 10 + 7) (.int .i64 n.last)) (i * 10 + 8) (.int .i64 n.prev)) (i * 10 + 9) (.int .i64 n.next))
  have hset : rowC (S.slots.set i (some n)) = _ := rowC_put S.slots i (some n) hil
  simp only [slotC, ndC, hav, strV, setAll] at hset
  have hch2 := (((((((((((Chg.refl (fun k => k = g) w1).setCell ⟨g, i * 10, none⟩ (fun _ => (rfl : g = g)) (.bool true)).setCell ⟨g, i * 10 + 1, none⟩ (fun _ => (rfl : g = g)) (.int .i64 n.kind)).setCell ⟨g, i * 10 + 2, none⟩ (fun _ => (rfl : g = g)) (.string ⟨n.name.toArray⟩)).setCell ⟨g, i * 10 + 3, none⟩ (fun _ => (rfl : g = g)) (.slice av n.attrs.length acap)).setCell ⟨g, i * 10 + 4, none⟩ (fun _ => (rfl : g = g)) (.string ⟨n.data.toArray⟩)).setCell ⟨g, i * 10 + 5, none⟩ (fun _ => (rfl : g = g)) (.int .i64 n.parent)).setCell ⟨g, i * 10 + 6, none⟩ (fun _ => (rfl : g = g)) (.int .i64 n.first)).setCell ⟨g, i * 10 + 7, none⟩ (fun _ => (rfl : g = g)) (.int .i64 n.last)).setCell ⟨g, i * 10 + 8, none⟩ (fun _ => (rfl : g = g)) (.int .i64 n.prev)).setCell ⟨g, i * 10 + 9, none⟩ (fun _ => (rfl : g = g)) (.int .i64 n.next))
  have hR2 := HR1.out.chg hch2 (fun e => hRg e)
  have HRow := Lib.hid hrow2
  have HSet := Lib.hid hset
  have HC2 := Lib.hid hch2
  have HR2 := Lib.hid hR2
  clear hrow2 hset hch2 hR2 r0 r2 x0 x1 x2 x3 x4 x5 x6 x7 x8 s0 s1 s2 s3 s4 s5 s6 s7 s8 s9 sz
  generalize ((((((((((w1.setCell ⟨g, i * 10, none⟩ (.bool true)).setCell ⟨g, i * 10 + 1, none⟩ (.int .i64 n.kind)).setCell ⟨g, i * 10 + 2, none⟩ (.string ⟨n.name.toArray⟩)).setCell ⟨g, i * 10 + 3, none⟩ (.slice av n.attrs.length acap)).setCell ⟨g, i * 10 + 4, none⟩ (.string ⟨n.data.toArray⟩)).setCell ⟨g, i * 10 + 5, none⟩ (.int .i64 n.parent)).setCell ⟨g, i * 10 + 6, none⟩ (.int .i64 n.first)).setCell ⟨g, i * 10 + 7, none⟩ (.int .i64 n.last)).setCell ⟨g, i * 10 + 8, none⟩ (.int .i64 n.prev)).setCell ⟨g, i * 10 + 9, none⟩ (.int .i64 n.next)) = w2 at *
  have r0 := HR2.out.cell 0
  have r1 := HR2.out.cell 1
  have r4 := HR2.out.cell 4
  have rz := HR2.out.free
  simp only [List.getElem?_cons_succ, List.getElem?_cons_zero] at r0 r1 r4
  go_wp2_with fail
  refine (handle_any S.b S.s (i : Nat) _).mono ?_
  rintro e w3 ⟨rfl, hb3⟩
  go_wp2_with fail
  go_ret
  have hlf := live_fill S.slots i n HHi.out
  have k4 := (HR2.out.set 4 (.int .i64 ((S.live : Int) + 1)))
  simp only [List.set_cons_succ, List.set_cons_zero] at k4
  have hch4 : Chg (fun k => k = R ∨ k = g) w (w2.setCell ⟨R, 4, none⟩ (.int .i64 ((S.live : Int) + 1))) := (HC1.out.trans HC2.out (fun _ _ e => .inr e)).setCell ⟨R, 4, none⟩ (fun _ => .inl rfl) _
  replace hb3 : Below (w2.setCell ⟨R, 4, none⟩ (.int .i64 ((S.live : Int) + 1))).heap.size (w2.setCell ⟨R, 4, none⟩ (.int .i64 ((S.live : Int) + 1))) w3 := ⟨hb3.os, hb3.tape, hb3.output, hb3.size, hb3.block⟩
  have hch5 := hch4.trans (Chg.of_below (F := fun k => k = R ∨ k = g) hb3) (fun _ _ e => e)
  have oth : ∀ {k : Nat} {cs : Array Value} {t : TypeId}, w.heap[k]? = some (.cells cs t (0, 0)) → t ≠ 182 → t ≠ 111 → w3.heap[k]? = w.heap[k]? := fun {k cs t} hk h1 h2 => hch5.block k (lt_of_block hk) (fun e => by
    rcases e with rfl | rfl
    · exact blk_ne hk HT.out.blk h2 rfl
    · obtain ⟨cur, hc⟩ := own_ty HT.out.slots (g := k) rfl
      exact blk_ne hk hc h1 rfl)
  refine ⟨.slice (some ⟨fg, 0, none⟩) F.length fcap, rfl, ⟨?_, ?_, ?_, ?_, HT.out.base, by simp only [List.length_set]; exact hfew⟩, hch5, rfl⟩
  · have := k4.below hb3
    unfold Tr.live at *
    simp only []
    rw [hlf]
    exact this
  · simp only [List.length_set]
    rw [HSet.out]
    refine own_kB HRow.out (fun b hb => ?_)
    have hbg : b = g := by cases hb; rfl
    subst hbg
    have hl2 : b < w2.heap.size := (HRow.out.lt b rfl).2
    exact (hb3.block b (by simp [World.setCell]; exact hl2)).trans (Below.heap_setCell _ _ _ _ (fun e => hRg e.symm))
  · have h1 := own_popB HFr.out
    have h2 := own_kB h1 (w' := w3) (fun b hb => by
      obtain ⟨cur, hc⟩ := own_ty HT.out.free (g := b) (by cases hb; rfl)
      exact oth hc (by decide) (by decide))
    have e : (List.map (fun (i : Nat) => Value.int .i64 (i : Int)) (F ++ [i])).take (F.length * 1) = F.map (fun (i : Nat) => Value.int .i64 (i : Int)) := by
      rw [Nat.mul_one, List.map_append, List.take_append_of_le_length (by simp), List.take_of_length_le (by simp)]
    rw [e] at h2
    exact h2
  · intro k m hk
    have hcase : (k = i ∧ m = n) ∨ S.slots[k]? = some (some m) := by
      simp only [] at hk
      rw [List.getElem?_set] at hk
      by_cases e : i = k
      · rw [if_pos e, if_pos hil] at hk; cases hk; exact .inl ⟨e.symm, rfl⟩
      · rw [if_neg e] at hk; exact .inr hk
    have keepA : ∀ {v l}, AttrAt B w v l → AttrAt B w3 v l := fun {v l} ha => by
      obtain ⟨a, c, e, h'⟩ := ha
      refine ⟨a, c, e, h'.imp id ?_⟩
      rintro ⟨b, cur, e2, hB, hg, hc⟩
      exact ⟨b, cur, e2, hB, (oth hg (by decide) (by decide)).trans hg, hc⟩
    rcases hcase with ⟨rfl, rfl⟩ | hk
    · exact keepA HN.out
    · exact keepA (HT.out.attrs k m hk)
theorem add_any {B R : Nat} {S : Tr} {sv fv : Value} {w : World} (h : TAt B R S sv fv w) (hfr : ∀ i ∈ S.free, S.slots[i]? = some none) (hfl : S.free.length ≤ 1000000) (hl : S.slots.length < 1000000) (n : Nd) (hn : AttrAt B w n.av n.attrs) :
    Calls Tryz.prog 106 #[.pointer (some ⟨R, 0, none⟩), .agg #[.int .i64 n.kind, .string ⟨n.name.toArray⟩, n.av, .string ⟨n.data.toArray⟩, .int .i64 n.parent, .int .i64 n.first, .int .i64 n.last, .int .i64 n.prev, .int .i64 n.next]] w fun e w' => ∃ sv' fv', e = .returned (.int .i64 (S.hd S.addI)) ∧
      TAt B R (S.add n) sv' fv' w' ∧ Chg (fun k => k = R ∨ sv.ownBlock = some k) w w' ∧ (sv'.ownBlock = sv.ownBlock ∨ ∃ k, sv'.ownBlock = some k ∧ w.heap.size ≤ k) ∧ fv'.ownBlock = fv.ownBlock := by
  cases e : S.free.getLast? with
  | none =>
    have e' : S.free = [] := by simpa using e
    have ha : S.add n = S.snoc n := by unfold Tr.add; rw [e]
    have hi : S.addI = S.slots.length := by unfold Tr.addI; rw [e]; rfl
    rw [ha, hi]
    refine (add_new h e' hl n hn).mono ?_
    rintro e w' ⟨sv', rfl, h1, h2, h3⟩
    exact ⟨sv', fv, rfl, h1, h2, h3, rfl⟩
  | some i =>
    obtain ⟨F, hF⟩ := List.getLast?_eq_some_iff.1 e
    have hi := hfr i (List.mem_of_getLast? e)
    have hil := (List.getElem?_eq_some_iff.1 hi).1
    obtain ⟨g, cap, rfl⟩ := slots_some h (by omega)
    have ha : S.add n = { S with slots := S.slots.set i (some n), free := F } := by unfold Tr.add; rw [e, hF]; simp
    have hi2 : S.addI = i := by unfold Tr.addI; rw [e]; rfl
    rw [ha, hi2]
    refine (add_old h hF hi n hn (by rw [hF] at hfl; simp at hfl; omega)).mono ?_
    rintro e w' ⟨fv', rfl, h1, h2, h3⟩
    exact ⟨_, fv', rfl, h1, h2.mono (fun k _ hk => hk.imp id (fun e => by rw [e]; rfl)), .inl rfl, h3⟩

theorem attrC_app (a b : List Atr) : attrC (a ++ b) = attrC a ++ attrC b := by unfold attrC; simp


end Go.Proofs.YtacdbnhnhdlmpaaGreatDoor.W
end
