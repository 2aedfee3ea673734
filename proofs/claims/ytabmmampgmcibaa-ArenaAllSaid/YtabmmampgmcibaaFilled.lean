/- The contract of the law's own 'filled': an arena of numbers from which some were dropped, and the handles that were given out. -/
import Derived.Test.YtabmmampgmcibaaFreshA
import Derived.Outline
import Derived.IntWalk
import Derived.Deep.DeepCutAuto
import Derived.Deep.RegionHeld3
namespace Go.Proofs.Ytabmmampgmcibaa.W
open Go.RowKit
set_option linter.unusedVariables false

/-- a slice that came in: n cells, one after the other -/
def In (w : World) (A : Option Addr) (n : Nat) (f : Nat → Value) : Prop := 0 < n → ∃ b off, A = some ⟨b, off, none⟩ ∧ b < w.heap.size ∧ ∀ k, k < n → w.cell? ⟨b, off + k, none⟩ = some (f k)
theorem In.below {w w' : World} {A : Option Addr} {n : Nat} {f : Nat → Value} (h : In w A n f) {B : Nat} (hB : w.heap.size ≤ B) (k : Below B w w') : In w' A n f := fun hn => by
  obtain ⟨b, off, e, hb, hc⟩ := h hn
  exact ⟨b, off, e, Nat.lt_of_lt_of_le hb k.size, fun j hj => (k.cell (p := ⟨b, off + j, none⟩) (Nat.lt_of_lt_of_le hb hB)).trans (hc j hj)⟩
theorem In.still {w w' : World} {A : Option Addr} {n : Nat} {f : Nat → Value} (h : In w A n f) (k : Below w.heap.size w w') : In w' A n f := h.below (Nat.le_refl _) k
theorem In.all {w w' : World} {A : Option Addr} {n : Nat} {f : Nat → Value} {l : List Ob} (h : In w A n f) (k : All w.heap.size w l w') : In w' A n f := h.still k.below

def fl0 (b s : Int) (f : Nat → Int) (i : Nat) : Ar Int := ⟨b, s, (List.range i).map fun k => (true, f k), [], i⟩
def fl (b s : Int) (f : Nat → Int) (n : Nat) (d : Nat → Int) : Nat → Ar Int
  | 0 => fl0 b s f n
  | j + 1 => if n = 0 then fl b s f n d j else (fl b s f n d j).drop 0 (hdl b s (d j % (n : Int)))

theorem fl0_zero (b s : Int) (f : Nat → Int) : fl0 b s f 0 = newAr b s := rfl
theorem fl0_next (b s : Int) (f : Nat → Int) (i : Nat) : (fl0 b s f i).nextSlot = i := by simp [fl0, Ar.nextSlot]
theorem fl0_add (b s : Int) (f : Nat → Int) (i : Nat) : (fl0 b s f i).add (f i) = fl0 b s f (i + 1) := by simp [fl0, Ar.add, List.range_succ]
theorem fl0_good (b s : Int) (f : Nat → Int) (i : Nat) : Good (fl0 b s f i) := by
  induction i with
  | zero => exact good_new b s
  | succ i ih => rw [← fl0_add]; exact ih.add _
theorem fl_good (b s : Int) (f : Nat → Int) (n : Nat) (d : Nat → Int) (j : Nat) : Good (fl b s f n d j) := by
  induction j with
  | zero => exact fl0_good b s f n
  | succ j ih => unfold fl; split; exact ih; exact ih.drop _ _
theorem fl_len (b s : Int) (f : Nat → Int) (n : Nat) (d : Nat → Int) (j : Nat) : (fl b s f n d j).slots.length = n := by
  induction j with
  | zero => simp [fl, fl0]
  | succ j ih => unfold fl; split; exact ih; rw [drop_len]; exact ih
theorem fl_b (b s : Int) (f : Nat → Int) (n : Nat) (d : Nat → Int) (j : Nat) : (fl b s f n d j).b = b := by
  induction j with
  | zero => rfl
  | succ j ih => unfold fl; split; exact ih; rw [drop_b]; exact ih
theorem fl_s (b s : Int) (f : Nat → Int) (n : Nat) (d : Nat → Int) (j : Nat) : (fl b s f n d j).s = s := by
  induction j with
  | zero => rfl
  | succ j ih => unfold fl; split; exact ih; rw [drop_s]; exact ih

theorem fladd {B : Nat} {w0 w : World} {l2 : List Ob} {g : Nat} {b s : Int} {f : Nat → Int} {i : Nat} {sv fv : Value} (h : All B w0 (arI g (fl0 b s f i) sv fv :: l2) w) (hi : i ≤ 1000) :
    Calls Try.prog 19 #[.pointer (some ⟨g, 0, none⟩), .int .i64 (f i)] w (DidAll (.int .i64 (hdl b s (i : Nat))) B w0 [] g (fl0 b s f (i + 1)) l2) := by
  have := add_all [] h (f i) ((fl0_good b s f i).fit (by simp [fl0]; omega))
  rw [fl0_add, fl0_next] at this
  exact this
theorem fldrop {B : Nat} {w0 w : World} {l2 : List Ob} {g : Nat} {b s : Int} {f d : Nat → Int} {n j : Nat} {sv fv : Value} (h : All B w0 (arI g (fl b s f n d j) sv fv :: l2) w) (hn : 0 < n) (hi : n ≤ 1000) :
    Calls Try.prog 20 #[.pointer (some ⟨g, 0, none⟩), .int .i64 (hdl b s (d j % (n : Int)))] w (DidAll (.bool ((fl b s f n d j).has (hdl b s (d j % (n : Int))))) B w0 [] g (fl b s f n d (j + 1)) l2) := by
  have := drop_all [] h (hdl b s (d j % (n : Int))) (hdl_lo ..) (hdl_hi ..) ((fl_good b s f n d j).fit (by rw [fl_len]; omega))
  rw [show fl b s f n d (j + 1) = (fl b s f n d j).drop 0 (hdl b s (d j % (n : Int))) from if_neg (by omega)]
  exact this

/-- an arena's three parts -/
abbrev parts (A : Ar Int) (sv fv : Value) : List Ob := [sl 84 2 sv A.slots.length (scells icell A.slots), sl 3 1 fv A.free.length (fcells A.free)]
def arV (A : Ar Int) (sv fv : Value) : Value := .agg #[.int .i64 A.b, .int .i64 A.s, sv, fv, .int .i64 A.live]

theorem All.toParts {B : Nat} {w0 w : World} {g : Nat} {A : Ar Int} {sv fv : Value} {l : List Ob} (h : All B w0 (arI g A sv fv :: l) w) : All B w0 (parts A sv fv ++ l) w := by
  have ha : AtI w g A sv fv := h.head
  obtain ⟨a1, a2⟩ := List.pairwise_cons.1 h.apart
  refine ⟨?_, ?_, ?_, h.below, h.le⟩
  · intro o ho
    simp only [parts, List.cons_append, List.nil_append, List.mem_cons] at ho
    rcases ho with rfl | rfl | ho
    · exact ha.slots
    · exact ha.free
    · exact h.P o (by simp [ho])
  · simp only [parts, List.cons_append, List.nil_append, List.pairwise_cons, List.mem_cons]
    refine ⟨?_, fun o ho k hk => a1 o ho k (.inr (.inr hk)), a2⟩
    rintro o (rfl | ho)
    · exact fun k hk => ha.d3 k hk
    · exact fun k hk => a1 o ho k (.inr (.inl hk))
  · intro o ho k hk
    simp only [parts, List.cons_append, List.nil_append, List.mem_cons] at ho
    rcases ho with rfl | rfl | ho
    · exact h.base _ (List.mem_cons_self) k (.inr (.inl hk))
    · exact h.base _ (List.mem_cons_self) k (.inr (.inr hk))
    · exact h.base o (by simp [ho]) k hk
theorem All.ofParts {B : Nat} {w0 w : World} {A : Ar Int} {sv fv : Value} {l : List Ob} (h : All B w0 (parts A sv fv ++ l) w) :
    All B w0 (arI w.heap.size A sv fv :: l) (w.alloc (.cells #[.int .i64 A.b, .int .i64 A.s, sv, fv, .int .i64 A.live] 32)) := by
  simp only [parts, List.cons_append, List.nil_append] at h
  have h1 := h.head
  have h2 := h.tail.head
  have h' := h.alloc (.cells #[.int .i64 A.b, .int .i64 A.s, sv, fv, .int .i64 A.live] 32)
  have ap := h.apart
  simp only [List.pairwise_cons, List.mem_cons] at ap
  obtain ⟨a1, a2, a3⟩ := ap
  have n1 : sv.ownBlock ≠ some w.heap.size := fun e => by have := own_lt h1 e; omega
  have n2 : fv.ownBlock ≠ some w.heap.size := fun e => by have := own_lt h2 e; omega
  refine ⟨?_, ?_, ?_, h'.below, h'.le⟩
  · intro o ho
    rcases List.mem_cons.1 ho with rfl | ho
    · exact ⟨Blk.new w [_, _, _, _, _] _, h'.head, h'.tail.head, n1, n2, fun k hk => a1 _ (.inl rfl) k hk⟩
    · exact h'.P o (by simp [ho])
  · rw [List.pairwise_cons]
    refine ⟨?_, a3⟩
    rintro o ho k (rfl | hk | hk) hk'
    · have := o.here w (h.P o (by simp [ho])) _ hk'; omega
    · exact a1 o (.inr ho) k hk hk'
    · exact a2 o ho k hk hk'
  · intro o ho k hk
    rcases List.mem_cons.1 ho with rfl | ho
    · rcases hk with rfl | hk | hk
      · exact h.le
      · exact h.base _ List.mem_cons_self k hk
      · exact h.base _ (List.mem_cons_of_mem _ List.mem_cons_self) k hk
    · exact h.base o (by simp [ho]) k hk

def FillR1 (w : World) (g : Nat) (b s : Int) (f : Nat → Int) (n : Nat) (gv iv : Value) (wr : World) : Prop :=
  ∃ (i : Nat) (sv fv : Value), i ≤ n ∧ iv = .int .i64 (i : Int) ∧ All w.heap.size w [arI g (fl0 b s f i) sv fv, gl gv (hs b s i), bk (w.heap.size + 1) [.int .i64 0, .int .i64 0, .slice none 0 0, .slice none 0 0, .int .i64 0] 32] wr
def FillR2 (w : World) (g : Nat) (b s : Int) (f : Nat → Int) (n : Nat) (d : Nat → Int) (m : Nat) (gv iv : Value) (wr : World) : Prop :=
  ∃ (i : Nat) (sv fv : Value), i ≤ m ∧ iv = .int .i64 (i : Int) ∧ All w.heap.size w [arI g (fl b s f n d i) sv fv, gl gv (hs b s n), bk (w.heap.size + 1) [.int .i64 0, .int .i64 0, .slice none 0 0, .slice none 0 0, .int .i64 0] 32] wr
/-- what 'filled' returns -/
def FillP (b s : Int) (f : Nat → Int) (n : Nat) (d : Nat → Int) (m : Nat) (w : World) (e : Ending) (w' : World) : Prop :=
  ∃ sv fv gv, e = .returned (.tuple #[arV (fl b s f n d m) sv fv, gv]) ∧ All w.heap.size w (parts (fl b s f n d m) sv fv ++ [gl gv (hs b s n)]) w'

set_option maxRecDepth 100000 in
theorem filled_any (b s : Int) (la da : Option Addr) (ln lc dn dc : Nat) (f d : Nat → Int) (w : World)
    (hl : In w la ln (fun k => .int .i16 (f k))) (hd : In w da dn (fun k => .int .u8 (d k))) (hn : ln ≤ 200) (hm : dn ≤ 200)
    (hf1 : ∀ k, -32768 ≤ f k) (hf2 : ∀ k, f k ≤ 32767) (hd1 : ∀ k, 0 ≤ d k) (hd2 : ∀ k, d k ≤ 255) :
    Calls Try.prog 32 #[.agg #[.int .i64 b, .int .i64 s], .slice la ln lc, .slice da dn dc] w (FillP b s f ln d dn w) := by
  have HL := Lib.hid hl
  have HD := Lib.hid hd
  have HF1 := Lib.hid hf1
  have HF2 := Lib.hid hf2
  have HD1 := Lib.hid hd1
  have HD2 := Lib.hid hd2
  clear hl hd hf1 hf2 hd1 hd2
  go_enter Try.func32, Try.ntmps32
  go_wp2_with (go_at_call 18; refine (new_any _ _ _).mono ?_; rintro e w2 ⟨rfl, hb2⟩; (obtain ⟨hc2, hf2⟩ := bcell hb2))
  have hA0 := ((((((All.start w).alloc (.cells #[.int .i64 b, .int .i64 s] 23)).newBk [.int .i64 0, .int .i64 0, .slice none 0 0, .slice none 0 0, .int .i64 0] 32).still hb2).nil 3 1).newAr b s)
  rw [show (w.alloc (.cells #[.int .i64 b, .int .i64 s] 23)).heap.size = w.heap.size + 1 by simp] at hA0
  generalize w2.alloc (.cells #[.int .i64 b, .int .i64 s, .slice none 0 0, .slice none 0 0, .int .i64 0] 32) = W at hA0 ⊢
  generalize w2.heap.size = g at hA0 ⊢
  clear hb2 hc2 hf2
  go_loopw [9, 16] (fun gv iv wr => FillR1 w g b s f ln gv iv wr) (fun _ iv _ => ln - (intOf iv).toNat)
  case atStart => exact ⟨0, _, _, Nat.zero_le _, rfl, hA0⟩
  case round =>
    clear hA0
    obtain ⟨i, sv, fv, hi1, rfl, hA⟩ := hrel
    by_cases hlt : i < ln
    · obtain ⟨lb, lo, rfl, _, hcs⟩ := (HL.out.all hA) (by omega)
      have hcell := hcs i hlt
      have hx1 := HF1.out i
      have hx2 := HF2.out i
      clear hcs
      go_wp2_with fail
      refine (fladd hA (by omega)).mono ?_
      rintro e w3 ⟨sv', fv', rfl, hA3⟩
      clear hA hcell
      go_wp2_with (at_builtin; refine wpList_append_gl [arI g (fl0 b s f (i + 1)) sv' fv'] hA3 (hdl b s (i : Nat)) rfl _ _ rfl rfl rfl (by rw [hs_len]; omega) ?_; intro gv' w4 hA4)
      go_roundw
      case rel => exact ⟨i + 1, sv', fv', by omega, by go_num, by rw [hs_succ]; exact hA4⟩
      case measure => simp [intOf]; omega
    · have him : i = ln := by omega
      subst him
      clear hlt hi1
      obtain ⟨n, rfl⟩ : ∃ n, n = i := ⟨_, rfl⟩
      go_wp2_with fail
      go_loopw [31] (fun iv wr => FillR2 w g b s f n d dn u9 iv wr) (fun iv _ => dn - (intOf iv).toNat)
      case atStart => exact ⟨0, _, _, Nat.zero_le _, rfl, hA⟩
      case round =>
        clear hA
        obtain ⟨i, sv, fv, hi1, rfl, hA⟩ := hrel
        by_cases hlt : i < dn
        · have hown : Own _ _ _ _ _ _ := hA.tail.head
          rw [hs_len] at hown
          by_cases hn0 : n = 0
          · subst hn0
            obtain ⟨ga, gc, rfl⟩ := own_shape hown
            clear hown
            go_wp2_with fail
            go_roundw
            case rel => exact ⟨i + 1, sv, fv, by omega, by go_num, hA⟩
            case measure => simp [intOf]; omega
          · obtain ⟨gg, gc, rfl, hgc⟩ := own_some hown (by omega)
            obtain ⟨db, dof, rfl, _, hcs⟩ := (HD.out.all hA) (by omega)
            have hcell := hcs i hlt
            have hx1 := HD1.out i
            have hx2 := HD2.out i
            have hy1 : 0 ≤ d i % (n : Int) := Int.emod_nonneg _ (by omega)
            have hy2 : d i % (n : Int) < (n : Int) := Int.emod_lt_of_pos _ (by omega)
            obtain ⟨q, hq⟩ := Int.eq_ofNat_of_zero_le hy1
            have hcell2 := hown.cellAt q (by omega)
            rw [hs_get b s (by omega)] at hcell2
            have D := fldrop hA (by omega) (by omega)
            rw [hq] at D
            have HDr := Lib.hid D
            clear hcs hown D
            go_wp2_with fail
            refine HDr.out.mono ?_
            rintro e w3 ⟨sv', fv', rfl, hA3⟩
            clear hA hcell hcell2 hq HDr
            go_wp2_with fail
            go_roundw
            case rel => exact ⟨i + 1, sv', fv', by omega, by go_num, hA3⟩
            case measure => simp [intOf]; omega
        · have him : i = dn := by omega
          subst him
          clear hlt hi1
          have hh : AtI _ _ _ _ _ := hA.head
          have hb2 : Blk _ _ _ _ := hA.tail.tail.head
          obtain ⟨sa, sc, rfl⟩ := own_shape hh.slots
          obtain ⟨fa, fc, rfl⟩ := own_shape hh.free
          have c0 := hh.blk.cell 0
          have c1 := hh.blk.cell 1
          have c2 := hh.blk.cell 2
          have c3 := hh.blk.cell 3
          have c4 := hh.blk.cell 4
          have e0 := hb2.cell 0
          have e1 := hb2.cell 1
          have e2 := hb2.cell 2
          have e3 := hb2.cell 3
          have e4 := hb2.cell 4
          have ef := hb2.free
          simp at c0 c1 c2 c3 c4 e0 e1 e2 e3 e4
          have HB := Lib.hid hb2
          clear hh hb2
          go_wp2_with fail
          have hA5 := ((((hA.setBk [_, _] 0 (.int .i64 (fl b s f n d i).b)).setBk [_, _] 1 (.int .i64 (fl b s f n d i).s)).setBk [_, _] 2 (.slice sa (fl b s f n d i).slots.length sc)).setBk [_, _] 3 (.slice fa (fl b s f n d i).free.length fc)).setBk [_, _] 4 (.int .i64 (fl b s f n d i).live)
          have hb5 : Blk _ _ _ _ := hA5.tail.tail.head
          have e0 := hb5.cell 0
          have e1 := hb5.cell 1
          have e2 := hb5.cell 2
          have e3 := hb5.cell 3
          have e4 := hb5.cell 4
          simp at e0 e1 e2 e3 e4
          have hA6 := All.toParts (l := [gl u9 (hs b s n), _]) hA5
          refine bodyPost_ret (v := .tuple #[arV (fl b s f n d i) (.slice sa (fl b s f n d i).slots.length sc) (.slice fa (fl b s f n d i).free.length fc), u9]) ?_ rfl ⟨_, _, _, rfl, hA6.sub ?_⟩
          · clear hA5 hb5 hA6
            unfold arV
            simp [results, Try.results32, go_sem, e0, e1, e2, e3, e4]
          · exact List.Sublist.cons_cons _ (List.Sublist.cons_cons _ (List.Sublist.cons_cons _ (List.nil_sublist _)))
end Go.Proofs.Ytabmmampgmcibaa.W
