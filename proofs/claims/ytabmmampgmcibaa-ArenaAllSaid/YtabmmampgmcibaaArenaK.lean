/- The arena of numbers: one contract for each operation, whatever the arena holds; and the law's own 'awake'. -/
import Derived.Test.YtabmmampgmcibaaArenaJ
namespace Go.Proofs.Ytabmmampgmcibaa.W
open Go.RowKit
set_option linter.unusedVariables false

/-- what an operation on an arena leaves: the value e0, the arena A', nothing else changed -/
def Did (e0 : Value) (g : Nat) (sv fv : Value) (A' : Ar Int) (w : World) (e : Ending) (w' : World) : Prop :=
  ∃ sv' fv', e = .returned e0 ∧ AtI w' g A' sv' fv' ∧ Chg (Ft g sv fv) w w' ∧ ∀ k, Ft g sv' fv' k → Ft g sv fv k ∨ w.heap.size ≤ k

/-- sizes that keep every number of an arena small, and free slots that are slots -/
structure Fit {α : Type} (A : Ar α) (n : Nat) : Prop where
  free : ∀ i ∈ A.free, i < A.slots.length
  len : A.slots.length ≤ n
  flen : A.free.length ≤ n
  l0 : 0 ≤ A.live
  l1 : A.live ≤ n

def Ar.drop {α : Type} (z : α) (A : Ar α) (h : Int) : Ar α := match A.look h with | some k => A.gone z k | none => A
def Ar.setAt {α : Type} (A : Ar α) (h : Int) (v : α) : Ar α := match A.look h with | some k => A.put k v | none => A
def Ar.get {α : Type} (A : Ar α) (h : Int) : Option α := match A.look h with | some k => (A.slots[k]?).map (·.2) | none => none
def Ar.has {α : Type} (A : Ar α) (h : Int) : Bool := (A.look h).isSome
theorem has_none {α : Type} {A : Ar α} {h : Int} (k : A.look h = none) : A.has h = false := by unfold Ar.has; rw [k]; rfl
theorem has_some {α : Type} {A : Ar α} {h : Int} {i : Nat} (k : A.look h = some i) : A.has h = true := by unfold Ar.has; rw [k]; rfl
theorem drop_eq_none {α : Type} {z : α} {A : Ar α} {h : Int} (k : A.look h = none) : A.drop z h = A := by unfold Ar.drop; rw [k]
theorem drop_eq_some {α : Type} {z : α} {A : Ar α} {h : Int} {i : Nat} (k : A.look h = some i) : A.drop z h = A.gone z i := by unfold Ar.drop; rw [k]
theorem setAt_none {α : Type} {A : Ar α} {h : Int} {v : α} (k : A.look h = none) : A.setAt h v = A := by unfold Ar.setAt; rw [k]
theorem setAt_some {α : Type} {A : Ar α} {h : Int} {v : α} {i : Nat} (k : A.look h = some i) : A.setAt h v = A.put i v := by unfold Ar.setAt; rw [k]
theorem get_eq_none {α : Type} {A : Ar α} {h : Int} (k : A.look h = none) : A.get h = none := by unfold Ar.get; rw [k]
theorem get_eq_some {α : Type} {A : Ar α} {h : Int} {i : Nat} {v : α} (k : A.look h = some i) (hv : A.slots[i]? = some (true, v)) : A.get h = some v := by unfold Ar.get; rw [k]; simp [hv]

theorem last_mem {l : List Nat} (h : l ≠ []) : l.getLastD 0 ∈ l := by
  cases l with
  | nil => exact absurd rfl h
  | cons x l => rw [List.getLastD_cons]; exact List.getLastD_mem_cons ..

theorem add_any {w : World} {g : Nat} {A : Ar Int} {sv fv : Value} (h : AtI w g A sv fv) (v : Int) (hF : Fit A 2000000000) :
    Calls Try.prog 19 #[.pointer (some ⟨g, 0, none⟩), .int .i64 v] w (Did (.int .i64 (hdl A.b A.s A.nextSlot)) g sv fv (A.add v) w) := by
  by_cases hf : A.free = []
  · have e1 : A.nextSlot = A.slots.length := by unfold Ar.nextSlot; rw [if_pos hf]
    have e2 : A.add v = ⟨A.b, A.s, A.slots ++ [(true, v)], [], A.live + 1⟩ := by unfold Ar.add; rw [if_pos hf]
    rw [e1, e2]
    obtain ⟨b, s, slots, free, live⟩ := A
    simp only at hf
    subst hf
    have k1 := hF.len
    have k2 := hF.l0
    have k3 := hF.l1
    simp only at k1 k2 k3
    refine (add_grow h v (by omega) (by omega) (by omega)).mono ?_
    rintro e w' ⟨sv', rfl, ha, hc, hk⟩
    refine ⟨sv', fv, rfl, ha, hc, ?_⟩
    rintro k (rfl | hk' | hk')
    · exact .inl (.inl rfl)
    · exact (hk k hk').imp (fun h => .inr (.inl h)) id
    · exact .inl (.inr (.inr hk'))
  · have e1 : A.nextSlot = A.free.getLastD 0 := by unfold Ar.nextSlot; rw [if_neg hf]
    have e2 : A.add v = ⟨A.b, A.s, A.slots.set (A.free.getLastD 0) (true, v), A.free.dropLast, A.live + 1⟩ := by unfold Ar.add; rw [if_neg hf]
    rw [e1, e2]
    have k1 := hF.len
    have k2 := hF.l0
    have k3 := hF.l1
    have k4 := hF.flen
    refine (add_used h v hf (by omega) (hF.free _ (last_mem hf)) (by omega) (by omega) (by omega)).mono ?_
    rintro e w' ⟨fv', rfl, ha, hc, hk⟩
    refine ⟨sv, fv', rfl, ha, hc, ?_⟩
    rintro k (rfl | hk' | hk')
    · exact .inl (.inl rfl)
    · exact .inl (.inr (.inl hk'))
    · exact .inl (.inr (.inr (hk ▸ hk')))

theorem drop_any {w : World} {g : Nat} {A : Ar Int} {sv fv : Value} (h : AtI w g A sv fv) (hd : Int) (h1 : -9223372036854775808 ≤ hd) (h2 : hd ≤ 9223372036854775807) (hF : Fit A 2000000000) :
    Calls Try.prog 20 #[.pointer (some ⟨g, 0, none⟩), .int .i64 hd] w (Did (.bool (A.has hd)) g sv fv (A.drop 0 hd) w) := by
  have k1 := hF.len
  have k2 := hF.l0
  have k3 := hF.l1
  have k4 := hF.flen
  cases hk : A.look hd with
  | none =>
    rw [has_none hk, drop_eq_none hk]
    refine (drop_none h hd h1 h2 (by omega) hk).mono ?_
    rintro e w' ⟨rfl, hb⟩
    exact ⟨sv, fv, rfl, h.below hb, Chg.of_below hb, fun k hk => .inl hk⟩
  | some i =>
    rw [has_some hk, drop_eq_some hk]
    refine (drop_some h hd h1 h2 (by omega) (by omega) (by omega) (by omega) hk).mono ?_
    rintro e w' ⟨fv', rfl, ha, hc, hk⟩
    refine ⟨sv, fv', rfl, ha, hc, ?_⟩
    rintro k (rfl | hk' | hk')
    · exact .inl (.inl rfl)
    · exact .inl (.inr (.inl hk'))
    · exact (hk k hk').imp (fun h => .inr (.inr h)) id

theorem set_any {w : World} {g : Nat} {A : Ar Int} {sv fv : Value} (h : AtI w g A sv fv) (hd v : Int) (h1 : -9223372036854775808 ≤ hd) (h2 : hd ≤ 9223372036854775807) (hF : Fit A 2000000000) :
    Calls Try.prog 37 #[.pointer (some ⟨g, 0, none⟩), .int .i64 hd, .int .i64 v] w (Did (.bool (A.has hd)) g sv fv (A.setAt hd v) w) := by
  have k1 := hF.len
  cases hk : A.look hd with
  | none =>
    rw [has_none hk, setAt_none hk]
    refine (set_none h hd v h1 h2 (by omega) hk).mono ?_
    rintro e w' ⟨rfl, hb⟩
    exact ⟨sv, fv, rfl, h.below hb, Chg.of_below hb, fun k hk => .inl hk⟩
  | some i =>
    rw [has_some hk, setAt_some hk]
    refine (set_some h hd v h1 h2 (by omega) hk).mono ?_
    rintro e w' ⟨rfl, ha, hc⟩
    exact ⟨sv, fv, rfl, ha, hc, fun k hk => .inl hk⟩

/-- what Get returns -/
theorem get_any {w : World} {g : Nat} {A : Ar Int} {sv fv : Value} (h : AtI w g A sv fv) (hd : Int) (h1 : -9223372036854775808 ≤ hd) (h2 : hd ≤ 9223372036854775807) (hl : A.slots.length ≤ 2000000000) :
    Calls Try.prog 28 #[.pointer (some ⟨g, 0, none⟩), .int .i64 hd] w fun e w' => e = .returned (.tuple #[.int .i64 ((A.get hd).getD 0), .bool (A.has hd)]) ∧ Below w.heap.size w w' := by
  cases hk : A.look hd with
  | none => rw [has_none hk, get_eq_none hk]; exact get_none h hd h1 h2 (by omega) hk
  | some i =>
    obtain ⟨_, _, v, hv⟩ := look_some hk
    rw [has_some hk, get_eq_some hk hv]
    exact get_some h hd h1 h2 (by omega) hk hv

/-- a new arena -/
theorem newAt (w : World) (b s : Int) : AtI (w.alloc (.cells #[.int .i64 b, .int .i64 s, .slice none 0 0, .slice none 0 0, .int .i64 0] 32)) w.heap.size (newAr b s) (.slice none 0 0) (.slice none 0 0) :=
  ⟨Blk.new w [.int .i64 b, .int .i64 s, .slice none 0 0, .slice none 0 0, .int .i64 0] _, World.ownsRow_nil _ _ _ _, World.ownsRow_nil _ _ _ _, by simp [Value.ownBlock], by simp [Value.ownBlock], by simp [Value.ownBlock]⟩

theorem fit_new {α : Type} (b s : Int) (n : Nat) : Fit (newAr b s : Ar α) n := ⟨by simp [newAr], by simp [newAr], by simp [newAr], by simp [newAr], by simp [newAr]⟩

theorem add_first (w : World) :
    Calls Try.prog 19 #[.pointer (some ⟨w.heap.size, 0, none⟩), .int .i64 7] (w.alloc (.cells #[.int .i64 10, .int .i64 3, .slice none 0 0, .slice none 0 0, .int .i64 0] 32)) fun e w' =>
      ∃ sv fv, e = .returned (.int .i64 10) ∧ AtI w' w.heap.size ⟨10, 3, [(true, 7)], [], 1⟩ sv fv ∧ Below w.heap.size w w' := by
  refine (add_any (newAt w 10 3) 7 (fit_new _ _ _)).mono ?_
  rintro e w' ⟨sv, fv, rfl, ha, hc, _⟩
  refine ⟨sv, fv, rfl, ha, ?_⟩
  have h1 : Below w.heap.size w (w.alloc (.cells #[.int .i64 10, .int .i64 3, .slice none 0 0, .slice none 0 0, .int .i64 0] 32)) := (Below.refl _ _).alloc (Nat.le_refl _) _
  refine h1.trans (hc.below (by simp) ?_)
  rintro k (rfl | h | h)
  · exact Nat.le_refl _
  · simp [Value.ownBlock] at h
  · simp [Value.ownBlock] at h

theorem get_first {w : World} {g : Nat} {sv fv : Value} (h : AtI w g ⟨10, 3, [(true, 7)], [], 1⟩ sv fv) :
    Calls Try.prog 28 #[.pointer (some ⟨g, 0, none⟩), .int .i64 10] w fun e w' => e = .returned (.tuple #[.int .i64 7, .bool true]) ∧ Below w.heap.size w w' :=
  get_some h 10 (by omega) (by omega) (by simp) (k := 0) (by decide) rfl

set_option maxRecDepth 100000 in
theorem awake_any (w : World) :
    Calls Try.prog 11 #[] w fun e w' => e = .returned (.bool true) ∧ Below w.heap.size w w' := by
  go_enter Try.func11, Try.ntmps11
  go_wp2_with (go_at_call 18; refine (new_any _ _ _).mono ?_; rintro e w1 ⟨rfl, hb1⟩)
  refine (add_first w1).mono ?_
  rintro e w2 ⟨sv, fv, rfl, ha, hb2⟩
  go_wp2_with fail
  refine (get_first ha).mono ?_
  rintro e w3 ⟨rfl, hb3⟩
  go_wp2_with fail
  refine (len_any (ha.below hb3)).mono ?_
  rintro e w4 ⟨rfl, rfl⟩
  go_wp2_with fail
  go_ret
  exact ⟨rfl, bthen (bthen hb1 hb2) hb3⟩
end Go.Proofs.Ytabmmampgmcibaa.W
