/- Texts joined: MakeT DocM ZoA ZoB. -/
import Derived.Test.YtfdofkokiaapoaaDoorGa16
import Derived.Test.YtfdofkokiaapoaaDoorGa10
import Derived.Test.YtfdofkokiaapoaaDoorGa7
import Derived.Test.YtfdofkokiaapoaaDoorRows
import Derived.Test.YtfdofkokiaapoaaDoorGa12
import Derived.Test.YtfdofkokiaapoaaDoorGa5
import Derived.Deep.RegionLaw
section
/- The contract of Make for a text without data. -/
namespace Go.Proofs.YtfdofkokiaapoaaDoor.W
open Go.RowKit
set_option linter.unusedVariables false
set_option linter.unusedSimpArgs false

set_option maxRecDepth 100000 in
set_option maxHeartbeats 4000000 in
theorem make_text {B R : Nat} {S : Tr} {sv fv : Value} {w : World} (h : TAt B R S sv fv w) (hf : S.free = []) (hl : S.slots.length < 20000) (hT0 : Laid w) :
    Calls Tryd.prog 24 #[.pointer (some ⟨R, 0, none⟩), .int .i64 3, .string ⟨#[]⟩, .string ⟨#[]⟩, .slice none 0 0] w fun e w' => ∃ sv', e = .returned (.tuple #[.int .i64 (S.hd S.slots.length), .int .i64 0]) ∧
      TAt B R (S.snoc (newN 3 [])) sv' fv w' ∧ Chg (fun k => k = R ∨ sv.ownBlock = some k) w w' ∧ (sv'.ownBlock = sv.ownBlock ∨ ∃ k, sv'.ownBlock = some k ∧ w.heap.size ≤ k) := by
  have HE := Lib.hid (fun wx (hb : Below w.heap.size w wx) => repair_any [] wx (by simp) (hT0.below hb))
  have hfx : fix [] = [] := rfl
  rw [hfx] at HE
  have HT := Lib.hid h
  have hlv : S.live ≤ S.slots.length := List.length_filter_le _ _
  have hlt := h.blk.lt
  clear h hT0 hfx
  go_enter Tryd.func24, Tryd.ntmps24
  go_wp2_with fail
  have hb0 := (Below.refl w.heap.size w).alloc (Nat.le_refl _) (.cells #[.int .i64 3, .string ⟨#[]⟩, .slice none 0 0, .string ⟨#[]⟩, .int .i64 0, .int .i64 0, .int .i64 0, .int .i64 0, .int .i64 0] 106)
  have hx0 := Blk.new w [.int .i64 3, .string ⟨#[]⟩, .slice none 0 0, .string ⟨#[]⟩, .int .i64 0, .int .i64 0, .int .i64 0, .int .i64 0, .int .i64 0] 106
  have HB0 := Lib.hid hb0
  have HX0 := Lib.hid (show Blk (w.alloc (.cells #[.int .i64 3, .string ⟨#[]⟩, .slice none 0 0, .string ⟨#[]⟩, .int .i64 0, .int .i64 0, .int .i64 0, .int .i64 0, .int .i64 0] 106)) _ _ _ from hx0)
  clear hb0 hx0
  generalize w.alloc (.cells #[.int .i64 3, .string ⟨#[]⟩, .slice none 0 0, .string ⟨#[]⟩, .int .i64 0, .int .i64 0, .int .i64 0, .int .i64 0, .int .i64 0] 106) = w1 at *
  refine (HE.out _ HB0.out).mono ?_
  rintro e w3 ⟨rfl, hb3⟩
  have hx3 := HX0.out.below hb3
  have c3 := hx3.cell 3
  simp only [List.getElem?_cons_succ, List.getElem?_cons_zero] at c3
  have f3 := hx3.free 3
  have HX3 := Lib.hid (hx3.set 3 (.string ⟨#[]⟩))
  have hB3 := HB0.out.trans (hb3.mono HB0.out.size)
  have hB4 := hB3.setCell (p := ⟨w.heap.size, 3, none⟩) (Nat.le_refl _) (.string ⟨#[]⟩)
  have HB4 := Lib.hid hB4
  clear hx3 hb3 hB3 hB4
  go_upto_region 16 with fail
  clear c3 f3
  generalize w3.setCell ⟨w.heap.size, 3, none⟩ (.string ⟨#[]⟩) = wr at *
  have hT4 := HT.out.below HB4.out
  have HL := Lib.hid (len_any hT4)
  have x2 := HX3.out.cell 2
  have x3 := HX3.out.cell 3
  simp only [List.set_cons_succ, List.set_cons_zero, List.getElem?_cons_succ, List.getElem?_cons_zero] at x2 x3
  have HT4 := Lib.hid hT4
  clear hT4
  have d1 : decide ((20000 : Int) ≤ (S.live : Int)) = false := by simp; omega
  go_wp2_with fail
  refine HL.out.mono ?_
  rintro e w5 ⟨rfl, hw⟩
  rw [hw]
  clear hw
  go_wp2_with fail
  refine (long_any ⟨#[]⟩ (by show 0 ≤ _; omega) _).mono ?_
  rintro e w6 ⟨rfl, hw⟩
  rw [hw, show decide (1048576 < (⟨#[]⟩ : ByteArray).size) = false from rfl]
  clear hw
  go_wp2_with fail
  refine (containsFunc_nil _ _).mono ?_
  rintro e w7 ⟨rfl, hw⟩
  rw [hw]
  clear hw d1 x2 x3
  go_upto_region 18 with fail
  have hne := stb_ne wr
  have hgl := HX3.out.lt
  have xs := fun (x : InS (StB wr)) => HX3.out.below x.h
  simp only [List.set_cons_succ, List.set_cons_zero] at xs
  have z0 := fun x => (xs x).cell 0
  have z1 := fun x => (xs x).cell 1
  have z2 := fun x => (xs x).cell 2
  have z3 := fun x => (xs x).cell 3
  have z4 := fun x => (xs x).cell 4
  have z5 := fun x => (xs x).cell 5
  have z6 := fun x => (xs x).cell 6
  have z7 := fun x => (xs x).cell 7
  have z8 := fun x => (xs x).cell 8
  simp only [List.getElem?_cons_succ, List.getElem?_cons_zero] at z0 z1 z2 z3 z4 z5 z6 z7 z8
  have HTX := Lib.hid (fun w9 (hb : Below wr.heap.size wr w9) => add_new (HT4.out.below hb) hf (by omega) (newN 3 []) ⟨none, 0, rfl, .inl rfl⟩)
  clear xs
  refine reg_b (fun _ => undef) 4 (by kernel_rfl) (by kernel_rfl) ?_
  simp only [List.take_succ_cons, List.take_zero, List.drop_succ_cons, List.drop_zero]
  repeat (first
    | (refine m_held (by rfl) (by rfl) (fun K hK => ?_); go_big_quiet_step (fail); refine wpQuiet_nil ?_; refine hK.out _ ?_; clear hK K)
    | (refine m_skip (by rfl) ?_; simp only [Act.put, List.setIfInBounds_toArray, List.set_cons_zero, List.set_cons_succ]))
  refine m_nil ?_
  intro w8 h8
  clear z0 z1 z2 z3 z4 z5 z6 z7 z8 hne
  go_wp2_with fail
  refine (HTX.out _ h8).mono ?_
  rintro e w9 ⟨sv', rfl, hT9, hC9, hsv⟩
  have H9 := Lib.hid hT9
  have HC := Lib.hid hC9
  have HS := Lib.hid hsv
  clear hT9 hC9 hsv
  go_wp2_with fail
  go_ret2
  have h8' : Below w.heap.size w w8 := HB4.out.trans (h8.mono HB4.out.size)
  refine ⟨sv', rfl, H9.out, (Chg.of_below h8').trans HC.out (fun _ _ h => h), ?_⟩
  rcases HS.out with e | ⟨k, e, hk⟩
  · exact .inl e
  · exact .inr ⟨k, e, Nat.le_trans h8'.size hk⟩
end Go.Proofs.YtfdofkokiaapoaaDoor.W
end
section
/- Document: a small document is made. -/
namespace Go.Proofs.YtfdofkokiaapoaaDoor.W
open Go.RowKit
set_option linter.unusedVariables false
set_option linter.unusedSimpArgs false

theorem Dc.snoc {S : Tr} {K d} {N : Nat} (h : Dc S K d N) (k : Int) (nm : List UInt8) (hk : k = 2 ∨ k = 3) (hN : N < 1000) : Dc (S.snoc (newN k nm)) K (fun x => if x = S.slots.length then 1 else d x) (N + 1) := by
  have hl := h.len
  refine ⟨h.lk.snoc rfl rfl rfl rfl rfl (by omega), h.free, fun i hi => ?_, h.root, ?_, fun i n hi0 hi => ?_, fun i n hi => ?_, by rw [snoc_len, hl]⟩
  · rw [at_snoc]
    by_cases e : i = S.slots.length
    · rw [if_pos e]; rfl
    · rw [if_neg e]; exact h.used i (by rw [snoc_len] at hi; omega)
  · obtain ⟨n, hn, hk⟩ := h.doc
    exact ⟨n, by rw [at_snoc, if_neg (by omega)]; exact hn, hk⟩
  · rw [at_snoc] at hi
    by_cases e : i = S.slots.length
    · rw [if_pos e] at hi; cases hi; exact hk
    · rw [if_neg e] at hi; exact h.el i n hi0 hi
  · rw [at_snoc] at hi
    by_cases e : i = S.slots.length
    · rw [if_pos e] at hi; cases hi; exact ⟨by simp [newN], by simp [newN]⟩
    · rw [if_neg e] at hi; exact h.sz i n hi
theorem dc_start (b s : Int) : Dc (newT b s) (fun _ => []) (fun _ => 1) 0 := by
  have hat : ∀ i n, (newT b s).at i = some n → i = 0 ∧ n = newN 1 [] := fun i n hi => by
    unfold Tr.at newT at hi
    cases i with
    | zero => simp at hi; exact ⟨rfl, hi.symm⟩
    | succ i => simp at hi
  refine ⟨start_lk b s, rfl, fun i hi => ?_, rfl, ⟨newN 1 [], rfl, rfl⟩, fun i n hi0 hi => absurd (hat i n hi).1 hi0, fun i n hi => ?_, rfl⟩
  · have : i = 0 := by simp [newT] at hi; omega
    subst this; rfl
  · rw [(hat i n hi).2]; exact ⟨by simp [newN], by simp [newN]⟩

section
variable {B : Nat} {w0 w : World} {R : Nat} {S : Tr} {sv fv : Value} {N : Nat} {l : List Ob} {K : Nat → List Nat} {d : Nat → Nat}
theorem mk_done (hD : Dc S K d N) (h : All B w0 (trO R S sv fv :: l) w) {sv' : Value} {w' : World} {k : Int} {nm : List UInt8} (hT' : TAt 0 R (S.snoc (newN k nm)) sv' fv w') (hC : Chg (fun k => k = R ∨ sv.ownBlock = some k) w w') (hs : sv'.ownBlock = sv.ownBlock ∨ ∃ k, sv'.ownBlock = some k ∧ w.heap.size ≤ k) :
    All B w0 (trO R (S.snoc (newN k nm)) sv' fv :: l) w' := by
  refine h.step [] (o' := trO R (S.snoc (newN k nm)) sv' fv) hT' (hC.mono (fun i _ e => by rcases e with e | e; exact .inl e; exact .inr (.inl e))) (fun i hi => ?_)
  rcases hi with hi | hi | hi | ⟨x, n, hx, hne, hi⟩
  · exact .inl (.inl hi)
  · rcases hs with hs | ⟨k', hs, hk'⟩
    · exact .inl (.inr (.inl (hs ▸ hi)))
    · rw [hs] at hi; cases hi; exact .inr hk'
  · exact .inl (.inr (.inr (.inl hi)))
  · rw [at_snoc] at hx
    by_cases e : x = S.slots.length
    · rw [if_pos e] at hx; cases hx; exact absurd rfl hne
    · rw [if_neg e] at hx; exact .inl (.inr (.inr (.inr ⟨x, n, hx, hne, hi⟩)))
/-- what Make leaves -/
def MkR (B : Nat) (w0 : World) (R : Nat) (S : Tr) (sv fv : Value) (N : Nat) (K : Nat → List Nat) (l : List Ob) (e : Ending) (w' : World) : Prop :=
  ∃ n d' sv', e = .returned (.tuple #[.int .i64 (S.hd (N + 1)), .int .i64 0]) ∧ Dc (S.snoc n) K d' (N + 1) ∧ All B w0 (trO R (S.snoc n) sv' fv :: l) w'
theorem op_make (hD : Dc S K d N) (h : All B w0 (trO R S sv fv :: l) w) (hN : N < 1000) :
    Calls Tryd.prog 24 #[.pointer (some ⟨R, 0, none⟩), .int .i64 2, .string ⟨#[112]⟩, .string ⟨#[]⟩, .slice none 0 0] w (MkR B w0 R S sv fv N K l) := by
  refine (make_one (show TAt 0 R S sv fv w from h.head) hD.free (by rw [hD.len]; omega) 112 (by unfold Ltr; decide)).mono ?_
  rintro e w' ⟨sv', rfl, hT', hC, hs⟩
  exact ⟨_, _, sv', by rw [hD.len], hD.snoc 2 [112] (.inl rfl) hN, mk_done hD h hT' hC hs⟩
theorem op_makeT (hD : Dc S K d N) (h : All B w0 (trO R S sv fv :: l) w) (hT : Laid w) (hN : N < 1000) :
    Calls Tryd.prog 24 #[.pointer (some ⟨R, 0, none⟩), .int .i64 3, .string ⟨#[]⟩, .string ⟨#[]⟩, .slice none 0 0] w (MkR B w0 R S sv fv N K l) := by
  refine (make_text (show TAt 0 R S sv fv w from h.head) hD.free (by rw [hD.len]; omega) hT).mono ?_
  rintro e w' ⟨sv', rfl, hT', hC, hs⟩
  exact ⟨_, _, sv', by rw [hD.len], hD.snoc 3 [] (.inr rfl) hN, mk_done hD h hT' hC hs⟩
end

theorem hds_snoc (S : Tr) (n : Nd) (N : Nat) : hds (S.snoc n) (N + 1) = hds S N ++ [S.hd (N + 1)] := by
  unfold hds
  rw [List.range_succ, List.map_append]
  rfl
theorem tree_newA {B : Nat} {w0 w : World} {l : List Ob} (h : All B w0 l w) (b s : Int) :
    Calls Tryd.prog 23 #[.agg #[.int .i64 b, .int .i64 s]] w fun e w' => ∃ R sv, e = .returned (.pointer (some ⟨R, 0, none⟩)) ∧ All B w0 (trO R (newT b s) sv (.slice none 0 0) :: l) w' := by
  refine (tree_new b s w).mono ?_
  rintro e w' ⟨R, sv, rfl, hT, hb⟩
  refine ⟨R, sv, rfl, h.new ⟨hT.blk, own_low hT.slots (Nat.zero_le _), own_low hT.free (Nat.zero_le _), fun i n hi => ?_, Nat.zero_le _, hT.few⟩ hb (fun k hk => ?_)⟩
  · obtain ⟨a, c, e, h'⟩ := hT.attrs i n hi
    exact ⟨a, c, e, h'.imp id fun ⟨g, cur, e1, _, r⟩ => ⟨g, cur, e1, Nat.zero_le _, r⟩⟩
  · rcases hk with rfl | hk | hk | ⟨i, n, hi, hne, hk⟩
    · exact hT.base
    · exact (hT.slots.lt k hk).1
    · cases hk
    · obtain ⟨a, c, e, h'⟩ := hT.attrs i n (at_slot hi)
      rcases h' with h' | ⟨g, cur, rfl, hg, _⟩
      · exact absurd h' hne
      · rw [e] at hk; cases hk; exact hg

/-- the state of Document's loop -/
def DmR (w0 : World) (R n : Nat) (lv iv : Value) (wr : World) : Prop :=
  ∃ (i : Nat) (S : Tr) (d : Nat → Nat) (sv : Value), i ≤ n ∧ iv = .int .i64 (i : Int) ∧ Dc S (fun _ => []) d i ∧ All w0.heap.size w0 (trO R S sv (.slice none 0 0) :: [gl lv (hds S i)]) wr
/-- what Document leaves -/
def DoR (w0 : World) (n : Nat) (e : Ending) (w' : World) : Prop :=
  ∃ (R : Nat) (S : Tr) (K : Nat → List Nat) (d : Nat → Nat) (sv fv lv : Value), e = .returned (.tuple #[.pointer (some ⟨R, 0, none⟩), lv]) ∧ Dc S K d n ∧ All w0.heap.size w0 (trO R S sv fv :: [gl lv (hds S n)]) w'
theorem hds_same {S S' : Tr} (hb : S'.b = S.b) (hs : S'.s = S.s) (N : Nat) : hds S' N = hds S N := by unfold hds Tr.hd; rw [hb, hs]
theorem etI : ET Tryd.prog 27 3 1 8 := ET.mk' (z := .int .i64 0) Tryd.underlying27 (by kernel_rfl) rfl (by decide)

set_option maxRecDepth 100000 in
set_option maxHeartbeats 4000000 in
theorem document_any {w : World} (hT : Laid w) (ka : Option Addr) (n kc : Nat) (xs : List Int) (hx : ∀ i, i < n → ∃ g o, ka = some ⟨g, o, none⟩ ∧ w.cell? ⟨g, o + i, none⟩ = some (.int .u8 (xs[i]?.getD 0)) ∧ 0 ≤ xs[i]?.getD 0 ∧ xs[i]?.getD 0 ≤ 255) (hn : n ≤ 900) :
    Calls Tryd.prog 8 #[.slice ka n kc] w (DoR w n) := by
  have HN := Lib.hid (tree_newA (All.start w) 5 2)
  have HX := Lib.hid hx
  have HTt := Lib.hid hT
  clear hT hx
  go_enter Tryd.func8, Tryd.ntmps8
  go_wp2_with fail
  refine HN.out.mono ?_
  rintro e w1 ⟨R, sv, rfl, hA1⟩
  have HA1 := Lib.hid hA1
  clear hA1 HN
  go_wp2_with fail
  go_loopw [5, 15] (fun lv iv wr => DmR w R n lv iv wr) (fun _ iv _ => n - intN iv)
  case atStart => exact ⟨0, newT 5 2, _, sv, Nat.zero_le _, rfl, dc_start 5 2, (HA1.out.nil 3 1).swap⟩
  case round =>
    obtain ⟨i, S, d, sv1, hi, rfl, hD, hA⟩ := hrel
    have HA := Lib.hid hA
    have HD := Lib.hid hD
    clear hA hD HA1
    by_cases hin : i < n
    · obtain ⟨gk, o, rfl, qk, hk0, hk1⟩ := HX.out i hin
      have qk2 := cell_keep HA.out.below qk
      generalize xs[i]?.getD 0 = x at *
      have HTr := Lib.hid (HTt.out.below HA.out.below)
      have HM1 := Lib.hid (op_make HD.out HA.out (by omega))
      have HM2 := Lib.hid (op_makeT HD.out HA.out HTr.out (by omega))
      clear qk
      have hcase : (x % 2 = 1 ∧ 0 < i) ∨ (x % 2 = 1 ∧ i = 0) ∨ ¬ x % 2 = 1 := by omega
      rcases hcase with ⟨hodd, hi0⟩ | ⟨hodd, hi0⟩ | hodd
      case' inl =>
        have d1 : (x % 2 == 1) = true := by simpa using hodd
        have d2 : decide (0 < i) = true := by simpa using hi0
        clear HM1 hi0 hodd
        go_wp2_with fail
        refine HM2.out.mono ?_
      case' inr.inl =>
        have d1 : (x % 2 == 1) = true := by simpa using hodd
        have d2 : decide (0 < i) = false := by simp; omega
        clear HM2 hodd hi0
        go_wp2_with fail
        refine HM1.out.mono ?_
      case' inr.inr =>
        have d1 : (x % 2 == 1) = false := by simpa using hodd
        clear HM2 hodd
        go_wp2_with fail
        refine HM1.out.mono ?_
      all_goals
        rintro e w5 ⟨nn, d', sv', rfl, hD5, hA5⟩
        have HD5 := Lib.hid hD5
        have HA5 := Lib.hid hA5
        have HS := Lib.hid (own_at (n := 1) (size := 1) (Blk.new w5 [.int .i64 (S.hd (i + 1))] 3) rfl (by omega))
        have hln := hds_len S i
        have hsn := hds_snoc S nn i
        clear hD5 hA5
        go_wp2_with (at_builtin; refine wpList_append_all etI [trO R (S.snoc nn) sv' (.slice none 0 0)] (HA5.out.alloc _) HS.out ?c1 ?c2 (by omega) rfl _ _ rfl rfl rfl ?_)
        case c1 => intro u hu; simp at hu; subst hu; rfl
        case c2 => rw [hln]; omega
        intro v' w6 hA6
        have hA7 : All w.heap.size w (trO R (S.snoc nn) sv' (.slice none 0 0) :: [gl v' (hds (S.snoc nn) (i + 1))]) w6 := by
          have e1 : hcells (hds S i) ++ [.int .i64 (S.hd (i + 1))] = hcells (hds (S.snoc nn) (i + 1)) := by rw [hsn]; simp [hcells]
          rw [e1] at hA6
          show All w.heap.size w (trO R (S.snoc nn) sv' (.slice none 0 0) :: [sl 3 1 v' (hds (S.snoc nn) (i + 1)).length (hcells (hds (S.snoc nn) (i + 1)))]) w6
          rw [hds_len]
          exact hA6
        have HA7 := Lib.hid hA7
        clear hA6 hA7 HS HA5 hln hsn
        go_wp2_with fail
        exact ⟨⟨i + 1, _, _, sv', by omega, by go_num, HD5.out, HA7.out⟩, by simp [intN]; omega⟩
    · obtain rfl : i = n := by omega
      have hlO : Own wr _ _ _ _ _ := HA.out.tail.head
      rw [hds_len] at hlO
      obtain ⟨la, lc, hlv⟩ := own_shape hlO
      by_cases h0 : i = 0
      · subst hlv
        subst h0
        clear hlO
        go_wp2_with fail
        go_ret2
        exact ⟨R, S, _, d, sv1, _, _, rfl, HD.out, HA.out⟩
      · obtain ⟨gh, ch, hlv2, _⟩ := own_some hlO (by omega)
        rw [hlv] at hlv2
        simp only [Value.slice.injEq] at hlv2
        obtain ⟨rfl, _, rfl⟩ := hlv2
        subst hlv
        have q0 := hlO.cellAt 0 (by omega)
        rw [hcells, List.getElem?_map, hds_at S i 0 (by omega)] at q0
        have hR : TAt 0 R S sv1 _ wr := HA.out.head
        have r5 := hR.blk.cell 5
        simp only [List.getElem?_cons_succ, List.getElem?_cons_zero, HD.out.root] at r5
        have gl0 := own_lt hlO (k := gh) rfl
        have gR := hR.blk.lt
        obtain ⟨n0, hn0⟩ := Option.isSome_iff_exists.1 (HD.out.used 0 (by rw [HD.out.len]; omega))
        obtain ⟨n1, hn1⟩ := Option.isSome_iff_exists.1 (HD.out.used 1 (by rw [HD.out.len]; omega))
        have HI := Lib.hid (fun wx (hb : Below wr.heap.size wr wx) => op_insert HD.out (HA.out.still hb) 0 1 none n0 n1 hn0 hn1 (fun b e => by cases e))
        rw [show hO S none = 0 from rfl] at HI
        have hi0 : 0 < i := by omega
        have d0 : decide ((0 : Int) < (i : Int)) = true := by simp; omega
        have x0 : ∀ x : InS (StB wr), x.w.cell? ⟨gh, 0, none⟩ = some (.int .i64 (S.hd 1)) := fun x => ((bcell x.h).1 _ _ gl0).trans q0
        have x5 : ∀ x : InS (StB wr), x.w.cell? ⟨R, 5, none⟩ = some (.int .i64 (S.hd 0)) := fun x => ((bcell x.h).1 _ _ gR).trans r5
        have hne := stb_ne wr
        clear hR q0 r5 hlO
        go_upto_region 15 with fail
        refine reg_b (fun _ => undef) 8 (by kernel_rfl) (by kernel_rfl) ?_
        simp only [List.take_succ_cons, List.take_zero, List.drop_succ_cons, List.drop_zero]
        repeat (first
          | (refine m_held (by rfl) (by rfl) (fun K hK => ?_); go_big_quiet_step (fail); refine wpQuiet_nil ?_; refine hK.out _ ?_; clear hK K)
          | (refine m_skip (by rfl) ?_; simp only [Act.put, List.setIfInBounds_toArray, List.set_cons_zero, List.set_cons_succ]))
        refine m_nil ?_
        intro w8 h8
        clear x0 x5 hne
        go_wp2_with fail
        refine (HI.out _ h8).mono ?_
        rintro e w9 ⟨S', K', d', v, er, rs, rfl, q1, q2, q3, q4, q5, q6⟩
        have Q1 := Lib.hid q1
        have Q6 := Lib.hid q6
        clear q1 q4 q6
        go_wp2_with fail
        go_ret2
        have hfin : All w.heap.size w (trO R S' sv1 (.slice none 0 0) :: [gl (.slice (some ⟨gh, 0, none⟩) i lc) (hds S' i)]) w9 := by
          rw [hds_same q2 q3]
          exact Q6.out.tail
        exact ⟨R, S', K', d', sv1, .slice none 0 0, .slice (some ⟨gh, 0, none⟩) i lc, rfl, Q1.out, hfin⟩
end Go.Proofs.YtfdofkokiaapoaaDoor.W
end
section
/- Sizes: the cells of a size; the contracts of place and of what it calls. -/
namespace Go.Proofs.YtfdofkokiaapoaaDoor.W.Z
open Go.RowKit
set_option linter.unusedVariables false

/-- a size: the node, the width, the height -/
abbrev Sz := Int × Int × Int
def encZ (x : Sz) : List Value := [.int .i64 x.1, .int .i64 x.2.1, .int .i64 x.2.2]
theorem encZ_len (x : Sz) : (encZ x).length = 3 := rfl
theorem encZ_one (x : Sz) : ∀ u ∈ encZ x, u.oneCell' = true := by intro u hu; simp [encZ] at hu; rcases hu with rfl | rfl | rfl <;> rfl
theorem etZ : ET Tryd.prog 68 67 3 24 := ET.mk' (z := .agg #[.int .i64 0, .int .i64 0, .int .i64 0]) Tryd.underlying68 (by kernel_rfl) rfl (by decide)
/-- a slice of sizes -/
abbrev zl (v : Value) (l : List Sz) : Ob := sl 67 3 v l.length (rows encZ l)

/-- the place of a node in a list of sizes -/
def placeOf (l : List Sz) (x : Int) : Int := match l.findIdx? (fun y => y.1 == x) with | some i => (i : Int) | none => -1

theorem place1_any (n wd h x : Int) (g : Nat) (w : World) (hg : w.cell? ⟨g, 0, none⟩ = some (.int .i64 x)) :
    Calls Tryd.prog 67 #[.agg #[.int .i64 n, .int .i64 wd, .int .i64 h], .pointer (some ⟨g, 0, none⟩)] w fun e w' => e = .returned (.bool (n == x)) ∧ Below w.heap.size w w' := by
  have hlt : g < w.heap.size := World.block_lt_of_cell? w ⟨g, 0, none⟩ hg
  have hne : g ≠ w.heap.size := by omega
  have hal : ∀ o, (w.alloc o).cell? ⟨g, 0, none⟩ = some (.int .i64 x) := fun o => (World.cell?_alloc_lt _ _ _ hlt).trans hg
  go_enter Tryd.func67, Tryd.ntmps67
  go_wp2_with fail
  go_ret
  exact ⟨rfl, (Below.refl _ _).alloc (Nat.le_refl _) _⟩

theorem placeOf_some {l : List Sz} {x : Int} {k : Nat} {y : Sz} (hk : l[k]? = some y) (hy : y.1 = x) (h : ∀ j z, j < k → l[j]? = some z → z.1 ≠ x) : placeOf l x = (k : Int) := by
  unfold placeOf
  obtain ⟨hlt, he⟩ := List.getElem?_eq_some_iff.1 hk
  have : l.findIdx? (fun y => y.1 == x) = some k := by
    rw [List.findIdx?_eq_some_iff_getElem]
    refine ⟨hlt, by rw [he]; simpa using hy, fun j hj => ?_⟩
    have := h j l[j] hj (List.getElem?_eq_getElem (by omega))
    simpa using this
  rw [this]
theorem placeOf_none {l : List Sz} {x : Int} (h : ∀ (j : Nat) (z : Sz), l[j]? = some z → z.1 ≠ x) : placeOf l x = -1 := by
  unfold placeOf
  have : l.findIdx? (fun y => y.1 == x) = none := by
    rw [List.findIdx?_eq_none_iff]
    intro z hz
    obtain ⟨j, hj⟩ := List.getElem?_of_mem hz
    simpa using h j z hj
  rw [this]
def PlR (w : World) (l : List Sz) (x : Int) (iv : Value) (wr : World) : Prop := ∃ k : Nat, k ≤ l.length ∧ iv = .int .i64 (k : Int) ∧ (∀ j z, j < k → l[j]? = some z → z.1 ≠ x) ∧ Below w.heap.size w wr

set_option maxRecDepth 100000 in
theorem index_any {w : World} {v : Value} {l : List Sz} {x : Int} {g : Nat} (h : Own w 67 3 v l.length (rows encZ l)) (hg : w.cell? ⟨g, 0, none⟩ = some (.int .i64 x)) (hl : l.length ≤ 2000000) :
    Calls Tryd.prog 66 #[v, .func (.func 67) #[] #[.pointer (some ⟨g, 0, none⟩)]] w fun e w' => e = .returned (.int .i64 (placeOf l x)) ∧ Below w.heap.size w w' := by
  have hlt : g < w.heap.size := World.block_lt_of_cell? w ⟨g, 0, none⟩ hg
  obtain ⟨va, vc, rfl⟩ := own_shape h
  have H := Lib.hid h
  have HG := Lib.hid hg
  clear h hg
  go_enter Tryd.func66, Tryd.ntmps66
  go_wp2_with fail
  go_loopw [8] (fun iv wr => PlR w l x iv wr) (fun iv _ => l.length - (intOf iv).toNat)
  case atStart => exact ⟨0, Nat.zero_le _, rfl, fun j z hj => absurd hj (Nat.not_lt_zero j), Below.refl _ _⟩
  case round =>
    obtain ⟨k, hk, rfl, hN, hB⟩ := hrel
    have HN := Lib.hid hN
    clear hN
    by_cases hkl : k < l.length
    · obtain ⟨y, hy⟩ : ∃ y, l[k]? = some y := ⟨_, List.getElem?_eq_getElem hkl⟩
      have hO := own_below H.out hB
      obtain ⟨vg, vc', he, _⟩ := own_some hO (by omega)
      simp only [Value.slice.injEq] at he
      obtain ⟨rfl, _, rfl⟩ := he
      have q0 := hO.cellAt (k * 3) (by omega)
      have q1 := hO.cellAt (k * 3 + 1) (by omega)
      have q2 := hO.cellAt (k * 3 + 2) (by omega)
      have r0 := rows_at (enc := encZ) encZ_len l k y hy 0 (by decide)
      have r1 := rows_at (enc := encZ) encZ_len l k y hy 1 (by decide)
      have r2 := rows_at (enc := encZ) encZ_len l k y hy 2 (by decide)
      rw [show k * 3 + 0 = k * 3 from rfl] at r0
      rw [r0] at q0
      rw [r1] at q1
      rw [r2] at q2
      simp only [encZ, List.getElem?_cons_zero, List.getElem?_cons_succ] at q0 q1 q2
      have hc := (hB.cell (p := ⟨g, 0, none⟩) hlt).trans HG.out
      have HC := Lib.hid (place1_any y.1 y.2.1 y.2.2 x g wr hc)
      have HY := Lib.hid hy
      clear r0 r1 r2 hO hc hy
      by_cases hyx : y.1 = x
      · have e1 : (y.1 == x) = true := by simpa using hyx
        have HP := Lib.hid (placeOf_some HY.out hyx HN.out)
        rw [e1] at HC
        clear hyx e1
        go_wp2_with fail
        refine HC.out.mono ?_
        rintro e w2 ⟨rfl, hb2⟩
        go_wp2_with fail
        go_ret
        exact ⟨by rw [HP.out]; rfl, hB.trans (hb2.mono hB.size)⟩
      · have e1 : (y.1 == x) = false := by simpa using hyx
        rw [e1] at HC
        clear e1
        go_wp2_with fail
        refine HC.out.mono ?_
        rintro e w2 ⟨rfl, hb2⟩
        go_wp2_with fail
        go_roundw
        case rel =>
          refine ⟨k + 1, by omega, by go_num, fun j z hj hz => ?_, hB.trans (hb2.mono hB.size)⟩
          by_cases e : j = k
          · subst e
            rw [HY.out] at hz
            obtain rfl := Option.some.inj hz
            exact hyx
          · exact HN.out j z (by omega) hz
        case measure => simp [intOf]; omega
    · have HP := Lib.hid (placeOf_none (l := l) (x := x) fun j z hz => HN.out j z (by have := (List.getElem?_eq_some_iff.1 hz).1; omega) hz)
      go_wp2_with fail
      go_ret
      exact ⟨by rw [HP.out]; rfl, hB⟩

theorem place_any {w : World} {v : Value} {l : List Sz} (x : Int) (h : Own w 67 3 v l.length (rows encZ l)) (hl : l.length ≤ 2000000) :
    Calls Tryd.prog 41 #[v, .int .i64 x] w fun e w' => e = .returned (.int .i64 (placeOf l x)) ∧ Below w.heap.size w w' := by
  have hb : Below w.heap.size w (w.alloc (.cells #[.int .i64 x] 3)) := (Below.refl _ _).alloc (Nat.le_refl _) _
  have HC := Lib.hid (index_any (g := w.heap.size) (x := x) (own_below h hb) (by simp) hl)
  clear h
  go_enter Tryd.func41, Tryd.ntmps41
  go_wp2_with fail
  refine HC.out.mono ?_
  rintro e w2 ⟨rfl, hb2⟩
  go_wp2_with fail
  go_ret
  exact ⟨rfl, bthen hb hb2⟩
end Go.Proofs.YtfdofkokiaapoaaDoor.W.Z
end
section
/- The observers of sizes in memory; the contracts of sizer, CreateSizer, Observe. -/
namespace Go.Proofs.YtfdofkokiaapoaaDoor.W.Z
open Go.RowKit
set_option linter.unusedVariables false

/-- an observer of sizes: its number, its callback, the sizes, the entries -/
structure Zr where
  id : Int
  cb : Int
  sz : List Sz
  en : List Sz
/-- an observer with its two slices -/
abbrev Zv := Zr × Value × Value
def encS (x : Zv) : List Value := [.int .i64 x.1.id, .int .i64 x.1.cb, x.2.1, x.2.2]
theorem encS_len (x : Zv) : (encS x).length = 4 := rfl
def stObs (zs : List Zv) : List Ob := zs.flatMap fun x => [zl x.2.1 x.1.sz, zl x.2.2 x.1.en]
theorem stObs_split (z1 : List Zv) (x : Zv) (z2 : List Zv) (l : List Ob) : stObs (z1 ++ x :: z2) ++ l = stObs z1 ++ (zl x.2.1 x.1.sz :: zl x.2.2 x.1.en :: (stObs z2 ++ l)) := by simp [stObs]
/-- the objects of a State without observers of mutations -/
def stL (g : Nat) (zv : Value) (nx : Int) (zs : List Zv) : List Ob := bk g [.slice none 0 0, zv, .int .i64 nx] 33 :: sl 101 4 zv zs.length (rows encS zs) :: stObs zs
theorem etS : ET Tryd.prog 31 101 4 64 := ET.mk' (z := .agg #[.int .i64 0, .int .i64 0, .slice none 0 0, .slice none 0 0]) Tryd.underlying31 (by kernel_rfl) rfl (by decide)

/-- the place of an observer -/
def ZrR (w : World) (zs : List Zv) (id : Int) (iv : Value) (wr : World) : Prop := ∃ k : Nat, k ≤ zs.length ∧ iv = .int .i64 (k : Int) ∧ (∀ j z, j < k → zs[j]? = some z → z.1.id ≠ id) ∧ w = wr

set_option maxRecDepth 100000 in
theorem sizer_at {B : Nat} {w0 w : World} {g zg zc : Nat} {nx : Int} {z1 z2 : List Zv} {z : Zv} {l : List Ob} (h : All B w0 (stL g (.slice (some ⟨zg, 0, none⟩) (z1 ++ z :: z2).length zc) nx (z1 ++ z :: z2) ++ l) w) (hn : ∀ y ∈ z1, y.1.id ≠ z.1.id) (hl : (z1 ++ z :: z2).length ≤ 1000000) :
    Calls Tryd.prog 40 #[.pointer (some ⟨g, 0, none⟩), .int .i64 z.1.id] w fun e w' => e = .returned (.pointer (some ⟨zg, z1.length * 4, none⟩)) ∧ w = w' := by
  have hb : Blk _ _ _ _ := h.head
  have hs : Own _ _ _ _ _ _ := h.tail.head
  have c1 := hb.cell 1
  simp only [List.getElem?_cons_zero, List.getElem?_cons_succ] at c1
  have HS := Lib.hid hs
  have HN := Lib.hid hn
  have hlt : z1.length < (z1 ++ z :: z2).length := by simp
  have hcell : ∀ k y, (z1 ++ z :: z2)[k]? = some y → w.cell? ⟨zg, k * 4, none⟩ = some (.int .i64 y.1.id) := fun k y hy => by
    have h1 := hs.cellAt (k * 4) (by have := (List.getElem?_eq_some_iff.1 hy).1; omega)
    have h2 := rows_at (enc := encS) encS_len _ k y hy 0 (by decide)
    rw [Nat.add_zero] at h2
    rw [h1, h2]
    rfl
  have HC := Lib.hid hcell
  clear hb hs h hn hcell
  obtain ⟨n, hnn⟩ : ∃ n, (z1 ++ z :: z2).length = n := ⟨_, rfl⟩
  rw [hnn] at c1 hlt hl
  have HNN := Lib.hid hnn
  clear hnn
  go_enter Tryd.func40, Tryd.ntmps40
  go_wp2_with fail
  go_loop [11] (fun iv => ∃ k : Nat, k ≤ z1.length ∧ iv = .int .i64 (k : Int)) (fun iv => n - (intOf iv).toNat)
  case atStart => exact ⟨0, Nat.zero_le _, rfl⟩
  case round =>
    obtain ⟨k, hk, rfl⟩ := hrel
    by_cases hkl : k < z1.length
    · have hy : (z1 ++ z :: z2)[k]? = some z1[k] := by rw [List.getElem?_append_left hkl, List.getElem?_eq_getElem hkl]
      have q0 := HC.out k _ hy
      have hne := HN.out z1[k] (List.getElem_mem hkl)
      generalize z1[k].1.id = y at *
      have e1 : (y == z.1.id) = false := by simpa using hne
      clear hy hne
      go_wp2_with fail
      go_round
      case rel => exact ⟨k + 1, by omega, by go_num⟩
      case measure => simp [intOf]; omega
    · obtain rfl : k = z1.length := by omega
      have q0 := HC.out z1.length z (get_mid z1 z z2)
      go_wp2_with fail
      go_ret
      exact ⟨rfl, rfl⟩

set_option maxRecDepth 100000 in
theorem sizer_no {B : Nat} {w0 w : World} {g : Nat} {zv : Value} {nx : Int} {zs : List Zv} {l : List Ob} (h : All B w0 (stL g zv nx zs ++ l) w) (id : Int) (hn : ∀ y ∈ zs, y.1.id ≠ id) (hl : zs.length ≤ 1000000) :
    Calls Tryd.prog 40 #[.pointer (some ⟨g, 0, none⟩), .int .i64 id] w fun e w' => e = .returned (.pointer none) ∧ w = w' := by
  have hb : Blk _ _ _ _ := h.head
  have hs : Own _ _ _ _ _ _ := h.tail.head
  obtain ⟨za, zc, rfl⟩ := own_shape hs
  have c1 := hb.cell 1
  simp only [List.getElem?_cons_zero, List.getElem?_cons_succ] at c1
  have HS := Lib.hid hs
  have HN := Lib.hid hn
  clear hb hs h hn
  go_enter Tryd.func40, Tryd.ntmps40
  go_wp2_with fail
  go_loop [11] (fun iv => ∃ k : Nat, k ≤ zs.length ∧ iv = .int .i64 (k : Int)) (fun iv => zs.length - (intOf iv).toNat)
  case atStart => exact ⟨0, Nat.zero_le _, rfl⟩
  case round =>
    obtain ⟨k, hk, rfl⟩ := hrel
    by_cases hkl : k < zs.length
    · have hy : zs[k]? = some zs[k] := List.getElem?_eq_getElem hkl
      obtain ⟨zg, zc', he, _⟩ := own_some HS.out (by omega)
      simp only [Value.slice.injEq] at he
      obtain ⟨rfl, _, rfl⟩ := he
      have q0 := HS.out.cellAt (k * 4) (by omega)
      have q1 := rows_at (enc := encS) encS_len _ k _ hy 0 (by decide)
      rw [Nat.add_zero] at q1
      rw [q1] at q0
      simp only [encS, List.getElem?_cons_zero] at q0
      have hne := HN.out zs[k] (List.getElem_mem hkl)
      generalize zs[k].1.id = y at *
      have e1 : (y == id) = false := by simpa using hne
      clear hy hne q1
      go_wp2_with fail
      go_round
      case rel => exact ⟨k + 1, by omega, by go_num⟩
      case measure => simp [intOf]; omega
    · go_wp2_with fail
      go_ret
      exact ⟨rfl, rfl⟩

theorem perm_in (A B C L : List Ob) : (A ++ (B ++ (C ++ L))).Perm (B ++ (C ++ (A ++ L))) :=
  (List.perm_append_comm_assoc A B (C ++ L)).trans (List.Perm.append_left B (List.perm_append_comm_assoc A C L))

set_option maxRecDepth 100000 in
set_option maxHeartbeats 1000000 in
theorem create_any {B : Nat} {w0 w : World} {g : Nat} {zv : Value} {nx : Int} {zs : List Zv} {l : List Ob} (h : All B w0 (stL g zv nx zs ++ l) w) (cb : Int) (n0 : 0 ≤ nx) (n1 : nx ≤ 1000000) (hl : zs.length ≤ 1000000) :
    Calls Tryd.prog 19 #[.pointer (some ⟨g, 0, none⟩), .int .i64 cb] w fun e w' => ∃ zv', e = .returned (.int .i64 (nx + 1)) ∧ All B w0 (stL g zv' (nx + 1) (zs ++ [(⟨nx + 1, cb, [], []⟩, .slice none 0 0, .slice none 0 0)]) ++ l) w' := by
  have hs : Own _ _ _ _ _ _ := h.tail.head
  obtain ⟨za, zc, rfl⟩ := own_shape hs
  have hA1 := h.setBk [] 2 (.int .i64 (nx + 1))
  have hb0 : Blk _ _ _ _ := h.head
  have a1 := hb0.cell 1
  have a2 := hb0.cell 2
  have af := hb0.free
  have hlt0 := hb0.lt
  simp at a1 a2
  have hb : Blk _ _ _ _ := hA1.head
  have c1 := hb.cell 1
  have c2 := hb.cell 2
  have hlt := hb.lt
  simp only [List.set_cons_succ, List.set_cons_zero, List.getElem?_cons_zero, List.getElem?_cons_succ] at c1 c2
  have HA := Lib.hid hA1
  clear h hs hb hb0 hA1
  go_enter Tryd.func19, Tryd.ntmps19
  go_wp2_with fail
  clear a1 a2 af hlt0
  generalize w.setCell ⟨g, 2, none⟩ (.int .i64 (nx + 1)) = W at *
  have ea : ∀ o, (W.alloc o).cell? ⟨g, 1, none⟩ = some (.slice za zs.length zc) := fun o => (World.cell?_alloc_lt _ _ _ hlt).trans c1
  go_region_law (first
    | (refine step_append_all etS [_] (HA.out.drew.alloc (.cells #[.int .i64 (nx + 1), .int .i64 cb, .slice none 0 0, .slice none 0 0] 101)) (own_at (n := 1) (size := 4) (Blk.new W.drew [.int .i64 (nx + 1), .int .i64 cb, .slice none 0 0, .slice none 0 0] 101) rfl (by omega)) (by intro u hu; simp at hu; rcases hu with rfl | rfl | rfl | rfl <;> rfl) (by omega) (by omega) (by rfl) _ _ (by rfl) (by rfl) (by rfl) ?_; intro v' w2 hA2; have ho : Own _ _ _ _ _ _ := hA2.tail.head; obtain ⟨va, vc, rfl⟩ := own_shape ho; have b2 : Blk _ _ _ _ := hA2.head; have d1 := b2.cell 1; have d2 := b2.cell 2; have df := b2.free; simp only [List.set_cons_succ, List.set_cons_zero, List.getElem?_cons_zero, List.getElem?_cons_succ] at d1 d2; have HB := Lib.hid hA2; clear hA2 ho b2))
  all_goals
    go_wp2_with fail
    go_ret
    refine ⟨.slice va (zs.length + 1) vc, rfl, ?_⟩
    have h9 := ((HB.out.setBk [] 1 (.slice va (zs.length + 1) vc)).nil 67 3).nil 67 3
    have h10 := h9.perm (perm_in [_, _] [_, _] (stObs zs) l)
    unfold stL
    rw [List.length_append, rows_snoc]
    simp [stObs, encS] at h10 ⊢
    exact h10
end Go.Proofs.YtfdofkokiaapoaaDoor.W.Z
end
