/- ArenaSalts, the plain law: the same operations under another Salt are the same operations on the slots. -/
import Derived.Test.YtabmmampgmcibaaFilled
namespace Go.Proofs.Ytabmmampgmcibaa.W
open Go.RowKit
set_option linter.unusedVariables false

/-- an arena under another Salt -/
def Ar.re {α : Type} (A : Ar α) (b s : Int) : Ar α := ⟨b, s, A.slots, A.free, A.live⟩
def Ar.ok {α : Type} (A : Ar α) (j : Nat) : Bool := (A.slots[j]?.map (·.1)) == some true
def Ar.dropS {α : Type} (z : α) (A : Ar α) (j : Nat) : Ar α := if A.ok j then A.gone z j else A
def Ar.setS {α : Type} (A : Ar α) (j : Nat) (v : α) : Ar α := if A.ok j then A.put j v else A
def Ar.getS {α : Type} (A : Ar α) (j : Nat) : Option α := if A.ok j then (A.slots[j]?).map (·.2) else none
variable {α : Type}
theorem good_re {A : Ar α} (h : Good A) (b s : Int) : Good (A.re b s) := ⟨h.free, h.nodup, h.cnt, h.live⟩
theorem next_re (A : Ar α) (b s : Int) : (A.re b s).nextSlot = A.nextSlot := rfl
theorem add_re (A : Ar α) (b s : Int) (v : α) : (A.re b s).add v = (A.add v).re b s := by
  unfold Ar.add Ar.re
  split <;> rfl
theorem look_re (A : Ar α) (b s : Int) (j : Nat) (hj : j ≤ 1000000) : (A.re b s).look (hdl b s (j : Nat)) = if A.ok j then some j else none := by
  unfold Ar.look
  rw [show (A.re b s).b = b from rfl, show (A.re b s).s = s from rfl, idx_hdl b s j (by omega) (by omega)]
  simp only [Int.toNat_natCast, show (A.re b s).slots = A.slots from rfl, Ar.ok, beq_iff_eq]
  by_cases h : A.slots[j]?.map (·.1) = some true
  · rw [if_pos h, if_pos ⟨by omega, h⟩]
  · rw [if_neg h, if_neg (fun k => h k.2)]
theorem has_re (A : Ar α) (b s : Int) (j : Nat) (hj : j ≤ 1000000) : (A.re b s).has (hdl b s (j : Nat)) = A.ok j := by
  unfold Ar.has
  rw [look_re A b s j hj]
  cases A.ok j <;> rfl
theorem drop_re (z : α) (A : Ar α) (b s : Int) (j : Nat) (hj : j ≤ 1000000) : (A.re b s).drop z (hdl b s (j : Nat)) = (A.dropS z j).re b s := by
  unfold Ar.drop
  rw [look_re A b s j hj]
  unfold Ar.dropS
  cases A.ok j <;> rfl
theorem set_re (A : Ar α) (b s : Int) (j : Nat) (v : α) (hj : j ≤ 1000000) : (A.re b s).setAt (hdl b s (j : Nat)) v = (A.setS j v).re b s := by
  unfold Ar.setAt
  rw [look_re A b s j hj]
  unfold Ar.setS
  cases A.ok j <;> rfl
theorem get_re (A : Ar α) (b s : Int) (j : Nat) (hj : j ≤ 1000000) : (A.re b s).get (hdl b s (j : Nat)) = A.getS j := by
  unfold Ar.get
  rw [look_re A b s j hj]
  unfold Ar.getS
  cases A.ok j <;> rfl
theorem ok_some {A : Ar α} {j : Nat} (h : A.ok j = true) : ∃ v, A.slots[j]? = some (true, v) := by
  unfold Ar.ok at h
  rw [beq_iff_eq, Option.map_eq_some_iff] at h
  obtain ⟨⟨u, v⟩, h1, h2⟩ := h
  simp at h2
  subst h2
  exact ⟨v, h1⟩
theorem Good.dropS {A : Ar α} (h : Good A) (z : α) (j : Nat) : Good (A.dropS z j) := by
  unfold Ar.dropS
  split
  · rename_i hk; obtain ⟨v, hv⟩ := ok_some hk; exact h.gone z hv
  · exact h
theorem Good.setS {A : Ar α} (h : Good A) (j : Nat) (v : α) : Good (A.setS j v) := by
  unfold Ar.setS
  split
  · rename_i hk; obtain ⟨v, hv⟩ := ok_some hk; exact h.put hv
  · exact h
theorem dropS_len (z : α) (A : Ar α) (j : Nat) : (A.dropS z j).slots.length = A.slots.length := by unfold Ar.dropS; split <;> simp [Ar.gone]
theorem setS_len (A : Ar α) (j : Nat) (v : α) : (A.setS j v).slots.length = A.slots.length := by unfold Ar.setS; split <;> simp [Ar.put]

/-- the operations that came in: four cells each -/
def InOps (w : World) (A : Option Addr) (n : Nat) (f : Nat → Int × Int × Bool × Int) : Prop := 0 < n → ∃ b off, A = some ⟨b, off, none⟩ ∧ b < w.heap.size ∧ ∀ k, k < n →
  w.cell? ⟨b, off + k * 4, none⟩ = some (.int .u8 (f k).1) ∧ w.cell? ⟨b, off + k * 4 + 1, none⟩ = some (.int .u8 (f k).2.1) ∧ w.cell? ⟨b, off + k * 4 + 2, none⟩ = some (.bool (f k).2.2.1) ∧ w.cell? ⟨b, off + k * 4 + 3, none⟩ = some (.int .i16 (f k).2.2.2)
theorem InOps.still {w w' : World} {A : Option Addr} {n : Nat} {f : Nat → Int × Int × Bool × Int} (h : InOps w A n f) (k : Below w.heap.size w w') : InOps w' A n f := fun hn => by
  obtain ⟨b, off, e, hb, hc⟩ := h hn
  refine ⟨b, off, e, Nat.lt_of_lt_of_le hb k.size, fun j hj => ?_⟩
  obtain ⟨h1, h2, h3, h4⟩ := hc j hj
  exact ⟨(k.cell (p := ⟨b, _, none⟩) hb).trans h1, (k.cell (p := ⟨b, _, none⟩) hb).trans h2, (k.cell (p := ⟨b, _, none⟩) hb).trans h3, (k.cell (p := ⟨b, _, none⟩) hb).trans h4⟩

theorem blk_at {w : World} {g : Nat} {cs : List Value} {t : TypeId} (e : g = w.heap.size) : Blk (w.alloc (.cells cs.toArray t)) g cs t := e ▸ Blk.new w cs t
theorem blk_drew {w : World} {g : Nat} {cs : List Value} {t : TypeId} (h : Blk w g cs t) : Blk w.drew g cs t := h
/-- two new arenas, wherever they lie -/
theorem two_new {B : Nat} {w0 w wx : World} (h : All B w0 [] w) (hb : Below w.heap.size w wx) {g1 g2 : Nat} {b1 s1 b2 s2 : Int}
    (k1 : Blk wx g1 [.int .i64 b1, .int .i64 s1, .slice none 0 0, .slice none 0 0, .int .i64 0] 32) (k2 : Blk wx g2 [.int .i64 b2, .int .i64 s2, .slice none 0 0, .slice none 0 0, .int .i64 0] 32)
    (h1 : w.heap.size ≤ g1) (h2 : w.heap.size ≤ g2) (hne : g1 ≠ g2) :
    All B w0 [arI g1 ((newAr 0 0).re b1 s1) (.slice none 0 0) (.slice none 0 0), arI g2 ((newAr 0 0).re b2 s2) (.slice none 0 0) (.slice none 0 0)] wx := by
  have h' := h.still hb
  have hle := h.le
  have F : ∀ g k, Ft g (.slice none 0 0) (.slice none 0 0) k → k = g := by
    rintro g k (h | h | h)
    · exact h
    · simp [Value.ownBlock] at h
    · simp [Value.ownBlock] at h
  refine ⟨?_, ?_, ?_, h'.below, h'.le⟩
  · intro o ho
    simp only [List.mem_cons, List.not_mem_nil, or_false] at ho
    rcases ho with rfl | rfl
    · exact ⟨k1, World.ownsRow_nil _ _ _ _, World.ownsRow_nil _ _ _ _, by simp [Value.ownBlock], by simp [Value.ownBlock], by simp [Value.ownBlock]⟩
    · exact ⟨k2, World.ownsRow_nil _ _ _ _, World.ownsRow_nil _ _ _ _, by simp [Value.ownBlock], by simp [Value.ownBlock], by simp [Value.ownBlock]⟩
  · simp only [List.pairwise_cons, List.mem_cons, List.not_mem_nil, or_false]
    refine ⟨?_, fun a h => h.elim, List.Pairwise.nil⟩
    rintro a rfl k ha hb
    have e1 := F _ _ ha
    have e2 := F _ _ hb
    omega
  · intro o ho k hk
    simp only [List.mem_cons, List.not_mem_nil, or_false] at ho
    rcases ho with rfl | rfl
    · have e1 := F _ _ hk; omega
    · have e1 := F _ _ hk; omega

/-- the handles of slots -/
def hj (b s : Int) (js : List Nat) : List Int := js.map fun (j : Nat) => hdl b s (j : Nat)
theorem hj_len (b s : Int) (js : List Nat) : (hj b s js).length = js.length := by simp [hj]
theorem hj_snoc (b s : Int) (js : List Nat) (j : Nat) : hj b s (js ++ [j]) = hj b s js ++ [hdl b s (j : Nat)] := by simp [hj]
theorem hj_get (b s : Int) (js : List Nat) {k : Nat} (h : k < js.length) : (hcells (hj b s js))[k]? = some (.int .i64 (hdl b s (js[k] : Nat))) := by simp [hcells, hj, h]

theorem radd {B : Nat} {w0 w : World} (l1 : List Ob) {l2 : List Ob} {g : Nat} {A : Ar Int} {b s : Int} {sv fv : Value} (h : All B w0 (l1 ++ arI g (A.re b s) sv fv :: l2) w) (v : Int) (hG : Good A) (hn : A.slots.length ≤ 1000) :
    Calls Try.prog 19 #[.pointer (some ⟨g, 0, none⟩), .int .i64 v] w (DidAll (.int .i64 (hdl b s (A.nextSlot : Nat))) B w0 l1 g ((A.add v).re b s) l2) := by
  have := add_all l1 h v ((good_re hG b s).fit (by show A.slots.length ≤ _; omega))
  rw [add_re, next_re] at this
  exact this
theorem rdrop {B : Nat} {w0 w : World} (l1 : List Ob) {l2 : List Ob} {g : Nat} {A : Ar Int} {b s : Int} {sv fv : Value} (h : All B w0 (l1 ++ arI g (A.re b s) sv fv :: l2) w) (j : Nat) (hj : j ≤ 1000000) (hG : Good A) (hn : A.slots.length ≤ 1000) :
    Calls Try.prog 20 #[.pointer (some ⟨g, 0, none⟩), .int .i64 (hdl b s (j : Nat))] w (DidAll (.bool (A.ok j)) B w0 l1 g ((A.dropS 0 j).re b s) l2) := by
  have := drop_all l1 h (hdl b s (j : Nat)) (hdl_lo ..) (hdl_hi ..) ((good_re hG b s).fit (by show A.slots.length ≤ _; omega))
  rw [drop_re _ _ _ _ _ hj, has_re _ _ _ _ hj] at this
  exact this
theorem rset {B : Nat} {w0 w : World} (l1 : List Ob) {l2 : List Ob} {g : Nat} {A : Ar Int} {b s : Int} {sv fv : Value} (h : All B w0 (l1 ++ arI g (A.re b s) sv fv :: l2) w) (j : Nat) (v : Int) (hj : j ≤ 1000000) (hG : Good A) (hn : A.slots.length ≤ 1000) :
    Calls Try.prog 37 #[.pointer (some ⟨g, 0, none⟩), .int .i64 (hdl b s (j : Nat)), .int .i64 v] w (DidAll (.bool (A.ok j)) B w0 l1 g ((A.setS j v).re b s) l2) := by
  have := set_all l1 h (hdl b s (j : Nat)) v (hdl_lo ..) (hdl_hi ..) ((good_re hG b s).fit (by show A.slots.length ≤ _; omega))
  rw [set_re _ _ _ _ _ hj, has_re _ _ _ _ hj] at this
  exact this
theorem rget {B : Nat} {w0 w : World} (l1 : List Ob) {l2 : List Ob} {g : Nat} {A : Ar Int} {b s : Int} {sv fv : Value} (h : All B w0 (l1 ++ arI g (A.re b s) sv fv :: l2) w) (j : Nat) (hj : j ≤ 1000000) (hG : Good A) (hn : A.slots.length ≤ 1000) :
    Calls Try.prog 28 #[.pointer (some ⟨g, 0, none⟩), .int .i64 (hdl b s (j : Nat))] w fun e w' => e = .returned (.tuple #[.int .i64 ((A.getS j).getD 0), .bool (A.ok j)]) ∧ All B w0 (l1 ++ arI g (A.re b s) sv fv :: l2) w' := by
  have := get_all l1 h (hdl b s (j : Nat)) (hdl_lo ..) (hdl_hi ..) ((good_re hG b s).fit (by show A.slots.length ≤ _; omega))
  rw [get_re _ _ _ _ hj, has_re _ _ _ _ hj] at this
  exact this
end Go.Proofs.Ytabmmampgmcibaa.W
