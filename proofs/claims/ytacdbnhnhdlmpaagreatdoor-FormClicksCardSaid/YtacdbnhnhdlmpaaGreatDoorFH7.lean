/- Texts joined: Mks RegX Rng. -/
import Derived.Test.YtacdbnhnhdlmpaaGreatDoorFH6
import Derived.OrdersIn
import Derived.TacticsIn
import Derived.OwnWalkIn
set_option maxRecDepth 100000
set_option maxHeartbeats 40000000
set_option linter.unusedVariables false
set_option linter.unusedSimpArgs false
section
namespace Go.Proofs.YtacdbnhnhdlmpaaGreatDoor.W
open Go.RowKit
theorem etBo : ET Tryz.prog 63 4 1 1 := ET.mk' (z := .bool false) Tryz.underlying63 (by kernel_rfl) rfl (by omega)
theorem run_append_O {P : Program} {t ty e : TypeId} {size bytes : Nat} (hT : ET P t e size bytes) {B : Nat} {w : World} {dv : Value} {n : Nat} {xs : List Value} (hown : w.ownsRow B e size dv n xs) (hB : B ≤ w.heap.size)
    {sv : Value} {m : Nat} {ys : List Value} (hs : Own w e size sv m ys) (h1 : ∀ u ∈ ys, u.oneCell' = true) (hlen : n + m ≤ 1000000000) (hby : bytes ≤ 1000) :
    ∃ v' w', (Builtin.append_ #[t, t] ty #[dv, sv]).run P w = .ok v' w' ∧ w'.ownsRow B e size v' (n + m) (xs ++ ys) ∧ w.grownBy w' dv.ownBlock ∧ (v'.ownBlock = dv.ownBlock ∨ v'.ownBlock = some w.heap.size) := by
  rcases id hs.2 with ⟨rfl, rfl⟩ | ⟨g, cap, cur, rfl, _⟩
  · obtain ⟨i, z, hi, hz0, hz1, hz2, hz3⟩ := hT.info
    have hy : ys = [] := List.length_eq_zero_iff.1 (by rw [hs.1]; omega)
    subst hy
    rw [List.append_nil]
    exact ⟨dv, w, run_append_owned_none w 0 t ty e i size hT.under hi dv n xs (own_low hown (Nat.zero_le _)), hown, ⟨rfl, rfl, rfl, Nat.le_refl _, fun k hk _ => rfl⟩, .inl rfl⟩
  · exact run_append_B hT hown hB hs h1 hlen hby
theorem mrN_one (M : List (Int × Bool)) : ∀ u ∈ mrN M, u.oneCell' = true := by
  intro u hu
  obtain ⟨p, _, rfl⟩ := List.mem_map.1 hu
  rfl
theorem mrB_one (M : List (Int × Bool)) : ∀ u ∈ mrB M, u.oneCell' = true := by
  intro u hu
  obtain ⟨p, _, rfl⟩ := List.mem_map.1 hu
  rfl
theorem mrN_snoc (M : List (Int × Bool)) (h : Int) (b : Bool) : mrN (M ++ [(h, b)]) = mrN M ++ [.int .i64 h] := by simp [mrN]
theorem mrB_snoc (M : List (Int × Bool)) (h : Int) (b : Bool) : mrB (M ++ [(h, b)]) = mrB M ++ [.bool b] := by simp [mrB]
def MsR (B : Nat) (M : List (Int × Bool)) (hd : Int) (on : Bool) : List Value → World → Prop
  | [], _ => True
  | [v1], w' => w'.ownsRow B 3 1 v1 M.length (mrN M)
  | [v2, _], w' => w'.ownsRow B 3 1 v2 (M.length + 1) (mrN (M ++ [(hd, on)]))
  | [v3, v2, _], w' => w'.ownsRow B 3 1 v2 (M.length + 1) (mrN (M ++ [(hd, on)])) ∧ w'.ownsRow B 4 1 v3 M.length (mrB M)
  | v4 :: _ :: v2 :: _ :: _, w' => w'.ownsRow B 3 1 v2 (M.length + 1) (mrN (M ++ [(hd, on)])) ∧ w'.ownsRow B 4 1 v4 (M.length + 1) (mrB (M ++ [(hd, on)]))
def MsO : List Value → List Value → TypeId → Prop
  | [], _, _ => True
  | [_], cs, ty => cs ≠ [] ∨ ty ≠ 3
  | [_, _], cs, ty => cs ≠ [] ∨ ty ≠ 3
  | _ :: _ :: _ :: _, cs, _ => cs ≠ []
def MsH : List Value → Option Nat
  | [v] => v.ownBlock
  | [v, _, _] => v.ownBlock
  | _ => none
structure MsC (W : World) (M : List (Int × Bool)) (hd : Int) (on : Bool) (k : List Value) (Y : List Ob) (w' : World) : Prop where
  b : Below W.heap.size W w'
  r : MsR W.heap.size M hd on k w'
  y : ∀ g cs ty, bk g cs ty ∈ Y → W.heap.size ≤ g ∧ g < w'.heap.size ∧ (MsO k cs ty → Blk w' g cs ty ∧ MsH k ≠ some g)
theorem MsR.below {B : Nat} {M : List (Int × Bool)} {hd : Int} {on : Bool} {k : List Value} {w w' : World} (h : MsR B M hd on k w) (hb : Below w.heap.size w w') : MsR B M hd on k w' := by
  match k, h with
  | [], h => trivial
  | [v1], h => exact own_keepB h hb
  | [v2, _], h => exact own_keepB h hb
  | [v3, v2, _], h => exact ⟨own_keepB h.1 hb, own_keepB h.2 hb⟩
  | v4 :: _ :: v2 :: _ :: _, h => exact ⟨own_keepB h.1 hb, own_keepB h.2 hb⟩
theorem MsR.lt {B : Nat} {M : List (Int × Bool)} {hd : Int} {on : Bool} {k : List Value} {w : World} (h : MsR B M hd on k w) {g : Nat} (hg : MsH k = some g) : B ≤ g ∧ g < w.heap.size := by
  match k, h, hg with
  | [v1], h, hg => exact World.ownsRow.lt (show w.ownsRow B 3 1 v1 M.length (mrN M) from h) g hg
  | [v3, v2, _], h, hg => exact h.2.lt g hg
theorem bk_inj {g h : Nat} {cs cs' : List Value} {ty ty' : TypeId} (e : bk g cs ty = bk h cs' ty') : g = h := by
  have h1 : (bk g cs ty).F g := rfl
  rw [e] at h1
  exact h1
theorem MsC.alloc {W : World} {M : List (Int × Bool)} {hd : Int} {on : Bool} (k : List Value) (Y : List Ob) (w' : World) (cs : List Value) (ty : TypeId) (h : MsC W M hd on k Y w') : MsC W M hd on k (bk w'.heap.size cs ty :: Y) (w'.alloc (.cells cs.toArray ty)) := by
  have hb := (Below.refl w'.heap.size w').alloc (Nat.le_refl _) (.cells cs.toArray ty)
  refine ⟨bthen h.b hb, h.r.below hb, fun g cs2 ty2 hm => ?_⟩
  rcases List.mem_cons.1 hm with e | hm
  · have hg := bk_inj e
    subst hg
    refine ⟨h.b.size, by simp, fun _ => ⟨?_, fun q => ?_⟩⟩
    · have : (bk w'.heap.size cs2 ty2).P (w'.alloc (.cells cs.toArray ty)) := by rw [e]; exact Blk.new w' cs ty
      exact this
    · have := (h.r.lt q).2; omega
  · obtain ⟨h1, h2, h3⟩ := h.y g cs2 ty2 hm
    exact ⟨h1, Nat.lt_of_lt_of_le h2 hb.size, fun q => ⟨(h3 q).1.below hb, (h3 q).2⟩⟩
theorem MsC.perm {W : World} {M : List (Int × Bool)} {hd : Int} {on : Bool} (k : List Value) (Y Z : List Ob) (w' : World) (hp : Y.Perm Z) (h : MsC W M hd on k Y w') : MsC W M hd on k Z w' := ⟨h.b, h.r, fun g cs ty hm => h.y g cs ty (hp.mem_iff.2 hm)⟩
theorem own_kG {w w' : World} {B e sz n : Nat} {v : Value} {xs : List Value} (h : w.ownsRow B e sz v n xs) {row : Option Nat} (hg : w.grownBy w' row) (hr : ∀ g, row = some g → v.ownBlock ≠ some g) : w'.ownsRow B e sz v n xs :=
  own_kB h (fun k hk => hg.block k (h.lt k hk).2 (fun e => hr k e.symm hk))
section
variable {W w' : World} {M : List (Int × Bool)} {hd : Int} {on : Bool} {Y : List Ob} {va vb v1 v2 v3 v4 : Value} {g : Nat}
theorem blk_same {w : World} {g : Nat} {cs cs' : List Value} {ty ty' : TypeId} (h1 : Blk w g cs ty) (h2 : Blk w g cs' ty') : cs = cs' ∧ ty = ty' := by
  have := (show w.heap[g]? = _ from h1).symm.trans h2
  simp only [Option.some.injEq, Obj.cells.injEq] at this
  exact ⟨by simpa using this.1, this.2.1⟩
theorem ms_step {k : List Value} {v dv : Value} (h : MsC W M hd on k Y w') {w2 : World} (hg : w'.grownBy w2 dv.ownBlock) (hdv : ∀ k, dv.ownBlock = some k → W.heap.size ≤ k) (hr : MsR W.heap.size M hd on (v :: k) w2)
    (hO : ∀ cs ty, MsO (v :: k) cs ty → MsO k cs ty) (hne : ∀ g cs ty, MsO (v :: k) cs ty → Blk w' g cs ty → MsH k ≠ some g → dv.ownBlock ≠ some g)
    (hH : ∀ g, MsH (v :: k) = some g → dv.ownBlock = some g ∨ g = w'.heap.size) : MsC W M hd on (v :: k) Y w2 := by
  refine ⟨h.b.grown hg h.b.size (fun k e => hdv k e), hr, fun g cs ty hm => ?_⟩
  obtain ⟨h1, h2, h3⟩ := h.y g cs ty hm
  refine ⟨h1, Nat.lt_of_lt_of_le h2 hg.size, fun q => ?_⟩
  obtain ⟨q1, q2⟩ := h3 (hO cs ty q)
  have hn := hne g cs ty q q1 q2
  refine ⟨(hg.block g h2 (fun e => hn e.symm)).trans q1, fun e => ?_⟩
  rcases hH g e with e | e
  · exact hn e
  · omega
theorem ms1 (h : MsC W M hd on [] Y w') (hm : MkAt W va vb M) (hg : bk g [] 3 ∈ Y) (hl : M.length ≤ 1000000) {ty : TypeId} :
    ∃ v w2, (Builtin.append_ #[60, 60] ty #[.slice (some ⟨g, 0, none⟩) 0 0, va]).run Tryz.prog w' = .ok v w2 ∧ (∃ a n c, v = .slice a n c) ∧ MsC W M hd on [v] Y w2 := by
  obtain ⟨h1, h2, h3⟩ := h.y _ _ _ hg
  obtain ⟨q1, _⟩ := h3 trivial
  have ho : w'.ownsRow W.heap.size 3 1 (.slice (some ⟨g, 0, none⟩) 0 0) 0 [] := own_base' (own_at (n := 0) (size := 1) q1 rfl (by omega)) (fun k hk => by cases hk; exact h1)
  obtain ⟨v, w2, r1, r2, r3, r4⟩ := run_append_O (ty := ty) etI ho h.b.size (own_keepB hm.nodes h.b) (mrN_one M) (by omega) (by omega)
  rw [Nat.zero_add, List.nil_append] at r2
  obtain ⟨a, c, rfl⟩ := own_shapeB r2
  refine ⟨_, w2, r1, ⟨_, _, _, rfl⟩, ms_step h (dv := .slice (some ⟨g, 0, none⟩) 0 0) r3 (fun k hk => by cases hk; exact h1) r2 (fun _ _ _ => trivial) (fun g2 cs ty q q2 _ e => ?_) (fun g2 e => ?_)⟩
  · cases e
    obtain ⟨e1, e2⟩ := blk_same q1 q2
    rcases q with q | q
    · exact q e1.symm
    · exact q e2.symm
  · rcases r4 with r4 | r4
    · exact .inl (r4.symm.trans e)
    · exact .inr (Option.some.inj (e.symm.trans r4))
theorem ms2 (h : MsC W M hd on [v1] Y w') (hg : bk g [.int .i64 hd] 3 ∈ Y) (hl : M.length ≤ 1000000) {ty : TypeId} :
    ∃ v w2, (Builtin.append_ #[60, 60] ty #[v1, .slice (some ⟨g, 0, none⟩) 1 1]).run Tryz.prog w' = .ok v w2 ∧ (∃ a n c, v = .slice a n c) ∧ MsC W M hd on [v, v1] Y w2 := by
  obtain ⟨h1, h2, h3⟩ := h.y _ _ _ hg
  obtain ⟨q1, _⟩ := h3 (.inl (by simp))
  obtain ⟨v, w2, r1, r2, r3, r4⟩ := run_append_O (ty := ty) etI h.r h.b.size (own_at (n := 1) (size := 1) q1 rfl (by omega)) (by intro u hu; simp at hu; subst hu; rfl) (by omega) (by omega)
  rw [← mrN_snoc M hd on] at r2
  obtain ⟨a, c, rfl⟩ := own_shapeB r2
  refine ⟨_, w2, r1, ⟨_, _, _, rfl⟩, ms_step h r3 (fun k hk => (h.r.lt hk).1) r2 (fun _ _ q => q) (fun g2 cs ty q q2 q3 e => q3 e) (fun g2 e => by cases e)⟩
theorem ms3 (h : MsC W M hd on [v2, v1] Y w') (hm : MkAt W va vb M) (hg : bk g [] 4 ∈ Y) (hl : M.length ≤ 1000000) {ty : TypeId} :
    ∃ v w2, (Builtin.append_ #[63, 63] ty #[.slice (some ⟨g, 0, none⟩) 0 0, vb]).run Tryz.prog w' = .ok v w2 ∧ (∃ a n c, v = .slice a n c) ∧ MsC W M hd on [v, v2, v1] Y w2 := by
  obtain ⟨h1, h2, h3⟩ := h.y _ _ _ hg
  obtain ⟨q1, _⟩ := h3 (.inr (by decide))
  have ho : w'.ownsRow W.heap.size 4 1 (.slice (some ⟨g, 0, none⟩) 0 0) 0 [] := own_base' (own_at (n := 0) (size := 1) q1 rfl (by omega)) (fun k hk => by cases hk; exact h1)
  obtain ⟨v, w2, r1, r2, r3, r4⟩ := run_append_O (ty := ty) etBo ho h.b.size (own_keepB hm.on h.b) (mrB_one M) (by omega) (by omega)
  rw [Nat.zero_add, List.nil_append] at r2
  obtain ⟨a, c, rfl⟩ := own_shapeB r2
  have hv2 : w'.ownsRow W.heap.size 3 1 v2 (M.length + 1) (mrN (M ++ [(hd, on)])) := h.r
  refine ⟨_, w2, r1, ⟨_, _, _, rfl⟩, ms_step h (dv := .slice (some ⟨g, 0, none⟩) 0 0) r3 (fun k hk => by cases hk; exact h1) ⟨own_kG hv2 r3 (fun k hk e => ?_), r2⟩ (fun cs ty q => .inl q) (fun g2 cs ty q q2 _ e => ?_) (fun g2 e => ?_)⟩
  · cases hk
    obtain ⟨cur, hc⟩ := own_ty hv2 e
    exact blk_ne hc q1 (by decide) rfl
  · cases e
    exact q (blk_same q1 q2).1.symm
  · rcases r4 with r4 | r4
    · exact .inl (r4.symm.trans e)
    · exact .inr (Option.some.inj (e.symm.trans r4))
theorem ms4 (h : MsC W M hd on [v3, v2, v1] Y w') (hg : bk g [.bool on] 4 ∈ Y) (hl : M.length ≤ 1000000) {ty : TypeId} :
    ∃ v w2, (Builtin.append_ #[63, 63] ty #[v3, .slice (some ⟨g, 0, none⟩) 1 1]).run Tryz.prog w' = .ok v w2 ∧ (∃ a n c, v = .slice a n c) ∧ MsC W M hd on [v, v3, v2, v1] Y w2 := by
  obtain ⟨h1, h2, h3⟩ := h.y _ _ _ hg
  obtain ⟨q1, _⟩ := h3 (by simp [MsO])
  obtain ⟨hv2, hv3⟩ := h.r
  obtain ⟨v, w2, r1, r2, r3, r4⟩ := run_append_O (ty := ty) etBo hv3 h.b.size (own_at (n := 1) (size := 1) q1 rfl (by omega)) (by intro u hu; simp at hu; subst hu; rfl) (by omega) (by omega)
  rw [← mrB_snoc M hd on] at r2
  obtain ⟨a, c, rfl⟩ := own_shapeB r2
  refine ⟨_, w2, r1, ⟨_, _, _, rfl⟩, ms_step h r3 (fun k hk => (hv3.lt k hk).1) ⟨own_kG hv2 r3 (fun k hk e => ?_), r2⟩ (fun _ _ q => q) (fun g2 cs ty q q2 q3 e => q3 e) (fun g2 e => by cases e)⟩
  obtain ⟨cur, hc⟩ := own_ty hv2 e
  obtain ⟨cur2, hc2⟩ := own_ty hv3 hk
  exact blk_ne hc hc2 (by decide) rfl
end
def MsS (q : Nat) (va vb : Value) (w' : World) : Prop := w'.cell? ⟨q, 0, none⟩ = some va ∧ w'.cell? ⟨q, 1, none⟩ = some vb
def msMade (i g : Nat) : Value := if i = 15 then .pointer (some ⟨g, 0, none⟩) else if i = 0 ∨ i = 7 then .slice (some ⟨g, 0, none⟩) 0 0 else .slice (some ⟨g, 0, none⟩) 1 1
def msCs (hd : Int) (on : Bool) (i : Nat) : List Value := if i = 15 then [.slice none 0 0, .slice none 0 0] else if i = 5 then [.int .i64 hd] else if i = 12 then [.bool on] else []
def msTy (i : Nat) : TypeId := if i = 15 then 65 else if i < 7 then 3 else 4
end Go.Proofs.YtacdbnhnhdlmpaaGreatDoor.W
end
section
namespace Go.Proofs.YtacdbnhnhdlmpaaGreatDoor.W.RZ
open Go
open Go.Proofs.YtacdbnhnhdlmpaaGreatDoor.W
section
variable {P : Program} {ops : Array Oper} {L : Pl} {md : Region.Mode} {m n0 : Nat} {Q : Array Bool → List Value → List Ob → Act → Prop} {F : Go.Fence}
theorem wpAnyIn_of_any4F (hF : ∀ f, F.fn f) (hD : Option.isSome F.depth = false) (hcal : ∀ f args w R, Calls P f args w R → CallsIn F (n0 - 1) P f args w R) (hnd : ∀ (j : Nat) (o : Oper), ops[j]? = some o → ∀ c, o.op ≠ .defer c) {t : Nat} {Q' : Exit → Act → World → Prop} (hS : ∀ k X w, L.C k X w → L.S w) (hM : ∀ k X w cs ty, L.C k X w → L.C k (bk w.heap.size cs ty :: X) (w.alloc (.cells cs.toArray ty)))
    (hQ : ∀ listed k X a w, L.C k X w → Q listed k X a → wpAnyIn F n0 P md ops Q' t listed a w) :
    ∀ (n : Nat) (listed : Array Bool) (k : List Value) (X : List Ob) (a : Act) (w : World), L.C k X w → any4 P ops L md m Q n listed k X a → wpAnyIn F n0 P md ops Q' (n + t) listed a w := by
  intro n
  induction n with
  | zero => intro listed k X a w hw h; rw [Nat.zero_add]; exact hQ _ _ _ _ _ hw h.2
  | succ n ih =>
    intro listed k X a w hw h
    rw [show n + 1 + t = (n + t) + 1 by omega]
    refine ⟨fun e => absurd e h.1, fun i hi => ?_⟩
    obtain ⟨_, o, ho, _⟩ := mem_ready.1 hi
    obtain ⟨hok, hn⟩ := (h.2 i hi).2 o ho
    unfold wpOpIn
    simp only [ho]
    cases hwt : Region.wanted o (yielded ops a.tmps) with
    | false =>
      simp only [Bool.false_eq_true, if_false]
      exact ⟨fun f _ => hF f, ih _ _ _ _ _ hw (hn k [] undef (.inl ⟨hwt, rfl, rfl, rfl⟩))⟩
    | true =>
      simp only [if_true]
      obtain ⟨o1, o2, o3⟩ := hok hwt
      unfold Oper.wpIn
      refine ⟨fun f _ => hF f, ?_⟩
      rw [Oper.semAt_plain F _ _ (hnd i o ho)]
      rcases kind_three o with e | e | e
      · obtain ⟨v, hv⟩ := o1 e
        have hk := hn k [] v (.inr ⟨hwt, .inl ⟨e, hv, rfl, rfl⟩⟩)
        rcases hv w (hS _ _ _ hw) with r | ⟨r, rfl⟩
        · rw [r]; exact ih _ _ _ _ _ hw hk
        · rw [r]; exact ih _ _ _ _ _ hw hk
      · rcases (o2 e).2 X w (fun _ h => h) hw with ⟨f, args, r, hc⟩ | ⟨v, w', r, hv, hw'⟩ | ⟨w', r, hv, hw'⟩
        · rw [r]
          refine ⟨fun h => (by rw [hD] at h; cases h), CallsIn.mono (hcal _ _ _ _ hc) ?_⟩
          rintro e2 w' ⟨v, rfl, hv, hw'⟩
          exact ih _ _ _ _ _ hw' (hn (v :: k) [] v (.inr ⟨hwt, .inr (.inl ⟨e, hv, rfl, rfl⟩)⟩))
        · rw [r]
          exact ih _ _ _ _ _ hw' (hn (v :: k) [] v (.inr ⟨hwt, .inr (.inl ⟨e, hv, rfl, rfl⟩)⟩))
        · rw [r]
          exact ih _ _ _ _ _ hw' (hn (undef :: k) [] undef (.inr ⟨hwt, .inr (.inl ⟨e, hv, rfl, rfl⟩)⟩))
      · have r := o3 e w
        have hk := hn k [bk w.heap.size (L.cs i) (L.ty i)] (L.made i w.heap.size) (.inr ⟨hwt, .inr (.inr ⟨e, rfl, w.heap.size, rfl, rfl⟩)⟩)
        rw [r]
        exact ih _ _ _ _ _ (hM _ _ _ _ _ hw) hk
theorem wpAnyIn_tailF (hF : ∀ f, F.fn f) {Q' : Exit → Act → World → Prop} : ∀ (l : List Oper) (k : Nat) (listed : Array Bool) (a : Act) (w : World), (∀ j, l[j]? = ops[k + j]?) → tail4 md ops l.length k listed = true → wpListIn F n0 P ops Q' l a w → wpAnyIn F n0 P md ops Q' l.length listed a w
  | [], k, listed, a, w, hl, hB, h => ⟨by simpa [tail4] using hB, h⟩
  | o :: l, k, listed, a, w, hl, hB, h => by
    have h0 : ops[k]? = some o := by simpa using (hl 0).symm
    simp only [List.length_cons, tail4, Bool.and_eq_true, beq_iff_eq] at hB
    obtain ⟨hr, hB'⟩ := hB
    refine ⟨fun e => (by rw [hr] at e; cases e), fun i hi => ?_⟩
    rw [hr, List.mem_singleton] at hi
    subst hi
    unfold wpOpIn
    simp only [h0]
    have hrec : ∀ a' w', wpListIn F n0 P ops Q' l a' w' → wpAnyIn F n0 P md ops Q' l.length (listed.setIfInBounds i true) a' w' := fun a' w' h' => wpAnyIn_tailF hF l (i + 1) _ a' w' (fun j => by have := hl (j + 1); simpa [Nat.add_assoc, Nat.add_comm 1 j] using this) hB' h'
    unfold wpListIn at h
    split
    · rename_i hw
      rw [if_pos hw] at h
      exact Oper.wpIn_mono hrec h
    · rename_i hw
      rw [if_neg hw] at h
      exact ⟨h.1, hrec _ _ h.2⟩
def noDefer (o : Oper) : Bool := match o.op with | .defer _ => false | _ => true
theorem noDefer_of {o : Oper} (h : noDefer o = true) (c : Call) : o.op ≠ .defer c := fun e => by
  unfold noDefer at h
  rw [e] at h
  cases h
theorem reg_mX {id : Nat} {Q' : Exit → Act → World → Prop} {a : Act} {w : World} {l : List Oper} (L : Pl) (m : Nat) (hF : ∀ f, F.fn f) (hD : Option.isSome F.depth = false) (hcal : ∀ f args w R, Calls P f args w R → CallsIn F (n0 - 1) P f args w R) (hm : P.follows .mixedOrders = true) (hB : all4 .any l.toArray m (l.length - m) = true) (hnd : l.all noDefer = true)
    (hS : ∀ k X w, L.C k X w → L.S w) (hM : ∀ k X w cs ty, L.C k X w → L.C k (bk w.heap.size cs ty :: X) (w.alloc (.cells cs.toArray ty))) (hP : ∀ k X Y w, X.Perm Y → L.C k X w → L.C k Y w) (hC : L.C [] [] w.drew)
    (h : wp4 P l.toArray L (fun k X a' => ∀ w', L.C k X w' → wpListIn F n0 P l.toArray Q' (l.drop m) a' w') 0 [] [] (l.take m) a) : (Code.region id l.toArray true).wpIn F n0 P Q' a w := by
  simp only [all4, Bool.and_eq_true, decide_eq_true_eq] at hB
  obtain ⟨⟨⟨hs, hlx⟩, hb⟩, hsz⟩ := hB
  have hml : m ≤ l.length := by simp at hsz; omega
  have htk : (l.take m).length = m := by simp [hml]
  have hnd' : ∀ (j : Nat) (o : Oper), l.toArray[j]? = some o → ∀ c, o.op ≠ .defer c := fun j o ho => by
    rw [List.all_eq_true] at hnd
    exact noDefer_of (hnd o (List.mem_of_getElem? (by simpa using ho)))
  refine wpIn_region_any hm ?_
  have h1 := any4_lex (P := P) (L := L) (md := .any) (m := m) (t := l.length - m) (Q := fun listed k X a' => ∀ w', L.C k X w' → wpAnyIn F n0 P .any l.toArray Q' (l.length - m) listed a' w')
    (fun listed k X Y a hp hq w' hw' => hq w' (hP _ _ _ _ hp.symm hw')) hs hb
    (fun listed k X a ht hq w' hw' => by
      have := wpAnyIn_tailF (P := P) (md := .any) (ops := l.toArray) (n0 := n0) (Q' := Q') hF (l.drop m) m listed a w' (fun j => by simp) (by simpa using ht) (hq w' hw')
      simpa using this)
    (l.take m) 0 (Array.replicate l.toArray.size false) [] [] a (by rw [htk]; omega) (fun j hj => by rw [List.getElem?_take]; simp at hj ⊢; omega) (by simp) (by simp; intro j hj; simp [hj]) (by rw [htk]; exact hlx) h
  have h2 := wpAnyIn_of_any4F (n0 := n0) (Q' := Q') hF hD hcal hnd' hS hM (fun listed k X a w' hw' hq => hq w' hw') _ _ [] [] a _ hC h1
  have e : (l.take m).length + (l.length - m) = l.toArray.size := by rw [htk]; simp; omega
  rw [e] at h2
  exact h2
end
theorem calls_round {P : Program} {n l : Nat} (f : FuncId) (args : Array Value) (w : World) (R : Ending → World → Prop) (h : Calls P f args w R) : CallsIn (Fence.wide.inRound l) n P f args w R := (callsIn_wide (n := n)).2 h
end Go.Proofs.YtacdbnhnhdlmpaaGreatDoor.W.RZ
end
section
namespace Go.Proofs.YtacdbnhnhdlmpaaGreatDoor.W
open Go.RowKit
theorem reg_fX {P : Program} {n0 id lr : Nat} {Q' : Exit → Act → World → Prop} {a : Act} {w : World} {l : List Oper} (F : List Value → World → Prop) (V : List Value → Value → Prop) (m : Nat) (hm : P.follows .mixedOrders = true) (hB : RZ.all4 .any l.toArray m (l.length - m) = true) (hnd : l.all RZ.noDefer = true)
    (hF : ∀ k w1 w2, F k w1 → Below w1.heap.size w1 w2 → F k w2) (h0 : F [] w)
    (h : RZ.wp4 P l.toArray ⟨StB w, fun k X w' => StB w w' ∧ F k w', V, fun _ _ => undef, fun _ => [], fun _ => 0⟩ (fun k X a' => ∀ w', StB w w' → F k w' → wpListIn (Fence.wide.inRound lr) n0 P l.toArray Q' (l.drop m) a' w') 0 [] [] (l.take m) a) : (Code.region id l.toArray true).wpIn (Fence.wide.inRound lr) n0 P Q' a w :=
  RZ.reg_mX ⟨StB w, fun k X w' => StB w w' ∧ F k w', V, fun _ _ => undef, fun _ => [], fun _ => 0⟩ m (fun _ => trivial) rfl (fun f args w R h => RZ.calls_round f args w R h) hm hB hnd (fun k X w' h => h.1) (fun k X w' cs ty h => ⟨bthen h.1 ((Below.refl _ _).alloc (Nat.le_refl _) _), hF k _ _ h.2 ((Below.refl _ _).alloc (Nat.le_refl _) _)⟩) (fun k X Y w' hp h => h) ⟨(Below.refl _ _).drew, hF [] _ _ h0 ((Below.refl _ _).drew)⟩ (by
    refine cast ?_ h
    congr 1
    funext k X a'
    exact propext ⟨fun g w' hw => g w' hw.1 hw.2, fun g w' h1 h2 => g w' ⟨h1, h2⟩⟩)
end Go.Proofs.YtacdbnhnhdlmpaaGreatDoor.W
end
