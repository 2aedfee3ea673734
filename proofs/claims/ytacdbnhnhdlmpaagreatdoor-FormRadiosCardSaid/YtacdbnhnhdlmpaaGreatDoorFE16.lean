/- Texts joined: Fon FmC Rcl. -/
import Derived.Test.YtacdbnhnhdlmpaaGreatDoorFE15
import Derived.Test.YtacdbnhnhdlmpaaGreatDoorFE14
import Derived.Lib.MapLaws
set_option maxRecDepth 100000
set_option maxHeartbeats 40000000
set_option linter.unusedVariables false
set_option linter.unusedSimpArgs false
section
namespace Go.Proofs.YtacdbnhnhdlmpaaGreatDoor.W
open Go.RowKit
def edO (u r : Value) (F : FT) : List Ob := [ro 126 5 u F.undo.length (rows encE F.undo), ro 126 5 r F.redo.length (rows encE F.redo)]
def oneL (Q g cap : Nat) (foc : Int) (y : FX) : List Ob := [bk Q [.slice (some ⟨g, 0, none⟩) 1 cap, .int .i64 foc] 30, sl 119 9 (.slice (some ⟨g, 0, none⟩) 1 cap) 1 (fxC y)]
def FsAt (B : Nat) (w0 : World) (Q : Nat) (foc hd : Int) (v : List UInt8) (l : List Ob) (F : FT) (w : World) : Prop :=
  ∃ fa X u r, FInv X hd v ∧ ftX X hd v = F ∧ (getX X hd).uv = u ∧ (getX X hd).rv = r ∧ All B w0 (fsL Q fa foc X ++ (edO u r F ++ l)) w
section
variable {B : Nat} {w0 w : World} {Q R : Nat} {foc hd : Int} {l : List Ob} {O : Ob} {k : Nat} {v : List UInt8} {F : FT}
theorem FsAt.still {w' : World} (h : FsAt B w0 Q foc hd v l F w) (hb : Below w.heap.size w w') : FsAt B w0 Q foc hd v l F w' :=
  let ⟨fa, X, u, r, h1, h2, h3, h4, h5⟩ := h; ⟨fa, X, u, r, h1, h2, h3, h4, h5.still hb⟩
theorem FsAt.rest (h : FsAt B w0 Q foc hd v l F w) : All B w0 l w := by
  obtain ⟨fa, X, u, r, h1, h2, h3, h4, h5⟩ := h
  exact h5.tail.tail.tail.tail
theorem oneL_fs (Q g cap : Nat) (foc : Int) (y : FX) : oneL Q g cap foc y = fsL Q (.slice (some ⟨g, 0, none⟩) 1 cap) foc [y] := by unfold oneL fsL; simp [rows]
theorem FsAt.of {g cap : Nat} {tc ck : Bool} {u r : Value} (h : All B w0 (oneL Q g cap foc ⟨hd, true, tc, ck, F, u, r⟩ ++ (edO u r F ++ l)) w) : FsAt B w0 Q foc hd v l F w := by
  have hf : fixX [⟨hd, true, tc, ck, F, u, r⟩] hd = some 0 := fix_of (x := ⟨hd, true, tc, ck, F, u, r⟩) rfl rfl (fun j _ hj => by omega)
  have hg : getX [⟨hd, true, tc, ck, F, u, r⟩] hd = ⟨hd, true, tc, ck, F, u, r⟩ := (Option.some.inj (fix_some hf).2.1).symm
  rw [oneL_fs] at h
  refine ⟨_, [⟨hd, true, tc, ck, F, u, r⟩], u, r, ⟨.inr ⟨_, rfl, rfl⟩, fun e => ?_⟩, ?_, ?_, ?_, h⟩
  · rw [hg] at e; cases e
  · unfold ftX; rw [hg]; rfl
  · rw [hg]
  · rw [hg]
theorem one_set {g cap : Nat} {y : FX} {l : List Ob} (h : All B w0 (oneL Q g cap foc y ++ l) w) (y' : FX) (j : Nat) (u : Value) (hy : fxC y' = (fxC y).set j u) : All B w0 (oneL Q g cap foc y' ++ l) (w.setCell ⟨g, j, none⟩ u) := by
  have h1 := All.setSl [bk Q [.slice (some ⟨g, 0, none⟩) 1 cap, .int .i64 foc] 30] (l2 := l) h j u
  rw [← hy] at h1
  exact h1
theorem one_cell {g cap : Nat} {y : FX} {l : List Ob} (h : All B w0 (oneL Q g cap foc y ++ l) w) {j : Nat} (hj : j < 9) : w.cell? ⟨g, j, none⟩ = (fxC y)[j]? ∧ w.frozen? ⟨g, j, none⟩ = false := by
  have hs : Own w 119 9 (.slice (some ⟨g, 0, none⟩) 1 cap) 1 (fxC y) := h.tail.head
  exact ⟨hs.cellAt j (by omega), hs.frozenAt _⟩
theorem value_one (h : FsAt B w0 Q foc hd v l F w) (hO : O ∈ l) (hF : FdOk B w0 R O hd k v) (hk : k = 1 ∨ k = 2) :
    Calls Tryz.prog 15 #[.pointer (some ⟨Q, 0, none⟩), .pointer (some ⟨R, 0, none⟩), .int .i64 hd] w fun e w' => e = .returned (.tuple #[.string ⟨F.val.toArray⟩, .int .i64 0]) ∧ Below w.heap.size w w' := by
  obtain ⟨fa, X, u, r, h1, h2, h3, h4, h5⟩ := h
  have := value_any h5 (List.mem_append_right _ (List.mem_append_right _ hO)) hF (by omega) (fun _ => hk) (by have := h1.one.len; omega)
  rwa [valX_ft, h2] at this
theorem selection_one (h : FsAt B w0 Q foc hd v l F w) (hO : O ∈ l) (hF : FdOk B w0 R O hd k v) (hk : k = 1 ∨ k = 2) (hst : F.st ≤ nL F.val) (hen : F.en ≤ nL F.val) (hln : F.val.length ≤ 10000000) :
    Calls Tryz.prog 16 #[.pointer (some ⟨Q, 0, none⟩), .pointer (some ⟨R, 0, none⟩), .int .i64 hd] w fun e w' => e = .returned (.tuple #[.int .i64 (F.st : Int), .int .i64 (F.en : Int), .int .i64 0]) ∧ Below w.heap.size w w' := by
  obtain ⟨fa, X, u, r, h1, h2, h3, h4, h5⟩ := h
  subst h2
  exact selection_any h5 (List.mem_append_right _ (List.mem_append_right _ hO)) hF hk (by have := h1.one.len; omega) hst hen hln
theorem dirty_one (h : FsAt B w0 Q foc hd v l F w) (hO : O ∈ l) (hF : FdOk B w0 R O hd k v) (hv : v.length ≤ 10000000) :
    Calls Tryz.prog 65 #[.pointer (some ⟨Q, 0, none⟩), .pointer (some ⟨R, 0, none⟩), .int .i64 hd] w fun e w' => ∃ g cap tc ck u r, e = .returned (.pointer (some ⟨g, 0, none⟩)) ∧
      All B w0 (oneL Q g cap foc ⟨hd, true, tc, ck, F, u, r⟩ ++ (edO u r F ++ l)) w' := by
  obtain ⟨fa, X, u, r, h1, h2, h3, h4, h5⟩ := h
  refine (dirty_any h5 (List.mem_append_right _ hO) hF (by have := h1.one.len; omega) hv).mono ?_
  rintro e w' ⟨g, cap, rfl, hA⟩
  have hn := dirtX_node (getX X hd) v
  have hu := dirtX_uv (getX X hd) v
  have ht := dirtX_t h1
  rw [get_node] at hn
  rw [h2] at ht
  rw [h3, h4] at hu
  have hi : idxX X hd = 0 := by
    rcases h1.one with rfl | ⟨x, rfl, hx⟩
    · rfl
    · unfold idxX; rw [fix_of (i := 0) (x := x) rfl hx (fun j _ hj => by omega)]; rfl
  have hX := (h1.one.up hn.1).1
  rw [hX] at hA
  generalize dirtX (getX X hd) v = y at *
  obtain ⟨yn, yd, yt, yc, yF, yu, yr⟩ := y
  simp only at hn hu ht
  obtain ⟨rfl, rfl⟩ := hn
  obtain ⟨rfl, rfl⟩ := hu
  subst ht
  rw [hi]
  refine ⟨g, cap, yt, yc, yu, yr, rfl, ?_⟩
  rw [oneL_fs]
  exact hA
set_option maxRecDepth 100000 in
set_option maxHeartbeats 4000000 in
theorem select_one (h : FsAt B w0 Q foc hd v l F w) (hO : O ∈ l) (hF : FdOk B w0 R O hd k v) (hk : k = 1 ∨ k = 2) (hv : v.length ≤ 10000000) (hln : F.val.length ≤ 10000000) (a b : Int) :
    Calls Tryz.prog 19 #[.pointer (some ⟨Q, 0, none⟩), .pointer (some ⟨R, 0, none⟩), .int .i64 hd, .int .i64 a, .int .i64 b] w fun e w' => e = .returned (.int .i64 0) ∧ FsAt B w0 Q foc hd v l (F.sel a b) w' := by
  have HK := Lib.hid (hF.kindA hO h.rest)
  have HW := Lib.hid (written_yes hk)
  have HDi := Lib.hid (fun wx (hb : Below w.heap.size w wx) => dirty_one (h.still hb) hO hF hv)
  have HLe := Lib.hid (fun wx => len_n F.val wx hln)
  clear h hF hO
  go_enter Tryz.func19, Tryz.ntmps19
  go_wp2_with fail
  refine HK.out.mono ?_
  rintro e w1 ⟨rfl, hb1⟩
  go_wp2_with fail
  refine (HW.out _).mono ?_
  rintro e w2 ⟨rfl, hw⟩
  subst hw
  go_wp2_with fail
  refine (HDi.out _ hb1).mono ?_
  rintro e w3 ⟨g, cap, tc, ck, u, r, rfl, hA⟩
  obtain ⟨c2, f2⟩ := one_cell hA (j := 2) (by omega)
  rw [show (fxC ⟨hd, true, tc, ck, F, u, r⟩)[2]? = some (.string ⟨F.val.toArray⟩) from rfl] at c2
  have HA := Lib.hid hA
  clear hA hb1
  go_wp2_with fail
  refine (HLe.out _).mono ?_
  rintro e w4 ⟨rfl, hb4⟩
  have hA4 := HA.out.still hb4
  obtain ⟨c5, f5⟩ := one_cell hA4 (j := 5) (by omega)
  obtain ⟨c6, f6⟩ := one_cell hA4 (j := 6) (by omega)
  have hA5 := one_set hA4 ⟨hd, true, tc, ck, { F with st := (F.sel a b).st }, u, r⟩ 5 (.int .i64 (min (max a 0) (nL F.val : Int))) (by
    simp only [fxC, List.set_cons_succ, List.set_cons_zero, FT.sel]
    rw [Int.toNat_of_nonneg (by omega)])
  have hA6 := one_set hA5 ⟨hd, true, tc, ck, F.sel a b, u, r⟩ 6 (.int .i64 (max (min (max b 0) (nL F.val : Int)) (min (max a 0) (nL F.val : Int)))) (by
    simp only [fxC, List.set_cons_succ, List.set_cons_zero, FT.sel]
    rw [Int.toNat_of_nonneg (by omega), Int.toNat_of_nonneg (by omega)])
  have HA6 := Lib.hid hA6
  have hnn : (nL F.val : Int) ≤ 10000000 := by have := nL_le F.val; omega
  clear hA4 hA5 hA6 hb4 c2 f2 HA
  go_wp2_with fail
  go_ret
  exact ⟨rfl, FsAt.of HA6.out⟩
end
theorem secN_ge {n b0 b1 : Nat} (h : secN n b0 b1 = true) : 128 ≤ b1 := by
  unfold secN inN at h
  split at h
  · simp at h; omega
  split at h
  · simp at h; omega
  split at h
  · simp at h; omega
  split at h <;> (simp at h; omega)
theorem inN_ge {n i b lo hi : Nat} (h : inN n i b lo hi = true) : i < n ∧ lo ≤ b ∧ b ≤ hi := by unfold inN at h; simpa using h
theorem piece_is (x : List UInt8) (hne : x ≠ []) (h : szL x = x.length) : (∃ c, x = [c] ∧ c.toNat < 128) ∨ ∀ b ∈ x, 128 ≤ b.toNat := by
  rw [szL_N _ hne] at h
  unfold szN at h
  by_cases c1 : inN x.length 0 (x.getD 0 0).toNat 0 127 = true
  · rw [if_pos c1] at h
    match x, h, c1 with
    | [a], _, c1 => exact .inl ⟨a, rfl, by have := (inN_ge c1).2.2; simp at this; omega⟩
  rw [if_neg c1] at h
  by_cases c2 : (inN x.length 0 (x.getD 0 0).toNat 194 223 && inN x.length 1 (x.getD 1 0).toNat 128 191) = true
  · rw [if_pos c2] at h
    rw [Bool.and_eq_true] at c2
    have k1 := inN_ge c2.1
    have k2 := inN_ge c2.2
    match x, h, k1, k2 with
    | [a, b], _, k1, k2 =>
      refine .inr fun y hy => ?_
      simp at hy k1 k2
      rcases hy with rfl | rfl <;> omega
  rw [if_neg c2] at h
  by_cases c3 : (inN x.length 0 (x.getD 0 0).toNat 224 239 && secN x.length (x.getD 0 0).toNat (x.getD 1 0).toNat && inN x.length 2 (x.getD 2 0).toNat 128 191) = true
  · rw [if_pos c3] at h
    rw [Bool.and_eq_true, Bool.and_eq_true] at c3
    have k1 := inN_ge c3.1.1
    have k2 := secN_ge c3.1.2
    have k3 := inN_ge c3.2
    match x, h, k1, k2, k3 with
    | [a, b, c], _, k1, k2, k3 =>
      refine .inr fun y hy => ?_
      simp at hy k1 k2 k3
      rcases hy with rfl | rfl | rfl <;> omega
  rw [if_neg c3] at h
  by_cases c4 : (inN x.length 0 (x.getD 0 0).toNat 240 244 && secN x.length (x.getD 0 0).toNat (x.getD 1 0).toNat && (inN x.length 2 (x.getD 2 0).toNat 128 191 && inN x.length 3 (x.getD 3 0).toNat 128 191)) = true
  · rw [if_pos c4] at h
    rw [Bool.and_eq_true, Bool.and_eq_true, Bool.and_eq_true] at c4
    have k1 := inN_ge c4.1.1
    have k2 := secN_ge c4.1.2
    have k3 := inN_ge c4.2.1
    have k4 := inN_ge c4.2.2
    match x, h, k1, k2, k3, k4 with
    | [a, b, c, d], _, k1, k2, k3, k4 =>
      refine .inr fun y hy => ?_
      simp at hy k1 k2 k3 k4
      rcases hy with rfl | rfl | rfl | rfl <;> omega
  rw [if_neg c4] at h
  have : 0 < x.length := List.length_pos_iff.2 hne
  omega
theorem pts_piece (n : Nat) : ∀ (l : List UInt8), l.length ≤ n → Vd l → ∀ x ∈ ptsL l, (∃ c, x = [c] ∧ c.toNat < 128) ∨ (x ≠ [] ∧ ∀ b ∈ x, 128 ≤ b.toNat) := by
  induction n with
  | zero =>
    intro l h _ x hx
    have : l = [] := List.eq_nil_of_length_eq_zero (by omega)
    subst this
    cases hx
  | succ n ih =>
    intro l h hv x hx
    by_cases hne : l = []
    · subst hne; cases hx
    · have hl : 0 < l.length := List.length_pos_iff.2 hne
      obtain ⟨h0, h3, h4, h5⟩ := vd_sz hv hne
      rw [ptsL_step l hne, show max (szL l) 1 = szL l by omega, List.mem_cons] at hx
      rcases hx with rfl | hx
      · obtain ⟨h1, h2⟩ := szL_app l [] h0
        rw [List.append_nil] at h1
        have hne2 : l.take (szL l) ≠ [] := by intro e4; have := congrArg List.length e4; rw [h2] at this; simp at this; omega
        rcases piece_is _ hne2 (h1.trans h2.symm) with k | k
        · exact .inl k
        · exact .inr ⟨hne2, k⟩
      · exact ih _ (by rw [List.length_drop]; omega) h4 x hx
def stripL (l : List UInt8) : List UInt8 := l.filter fun c => c ≠ 10 && c ≠ 13
def okP (x : List UInt8) : Bool := x ≠ [10] && x ≠ [13]
theorem strip_flat : ∀ (P : List (List UInt8)), (∀ x ∈ P, (∃ c, x = [c] ∧ c.toNat < 128) ∨ (x ≠ [] ∧ ∀ b ∈ x, 128 ≤ b.toNat)) → stripL P.flatten = (P.filter okP).flatten
  | [], _ => rfl
  | x :: P, h => by
    have ih := strip_flat P fun y hy => h y (by simp [hy])
    unfold stripL at ih ⊢
    rw [List.flatten_cons, List.filter_append, ih]
    rcases h x (by simp) with ⟨c, rfl, hc⟩ | ⟨hne, hh⟩
    · by_cases e : c = 10
      · subst e; simp [okP]
      · by_cases e2 : c = 13
        · subst e2; simp [okP]
        · rw [List.filter_cons_of_pos (p := okP) (by simp [okP, e, e2]), List.filter_cons_of_pos (by simp [e, e2])]; simp
    · have e1 : x.filter (fun c => c ≠ 10 && c ≠ 13) = x := by
        rw [List.filter_eq_self]
        intro b hb
        have := hh b hb
        have e1 : b ≠ 10 := fun e => by subst e; simp at this
        have e2 : b ≠ 13 := fun e => by subst e; simp at this
        simp [e1, e2]
      have e2 : okP x = true := by
        unfold okP
        have k1 : x ≠ [10] := fun e => by subst e; have := hh 10 (by simp); simp at this
        have k2 : x ≠ [13] := fun e => by subst e; have := hh 13 (by simp); simp at this
        simp [k1, k2]
      rw [e1, List.filter_cons_of_pos e2, List.flatten_cons]
theorem strip_pts {l : List UInt8} (h : Vd l) : ptsL (stripL l) = (ptsL l).filter okP ∧ Vd (stripL l) := by
  have e := strip_flat (ptsL l) (pts_piece l.length l (Nat.le_refl _) h)
  rw [pts_flat] at e
  rw [e]
  exact pts_of _ fun x hx => pts_one l.length l (Nat.le_refl _) h x (List.mem_filter.1 hx).1
theorem strip_len (l : List UInt8) : (stripL l).length ≤ l.length := List.length_filter_le _ _
def cleanL (area : Bool) (l : List UInt8) : List UInt8 := if area then rfix l else stripL (rfix l)
theorem clean_vd (area : Bool) (l : List UInt8) : Vd (cleanL area l) := by
  unfold cleanL
  split
  · exact rfix_rfix l
  · exact (strip_pts (rfix_rfix l)).2
theorem encode_is (r : Int) : Utf8.encode r = ⟨(Lib.encodeRune r).toArray⟩ := by
  unfold Lib.encodeRune
  by_cases hv : Utf8.valid r = true
  · have hv' := hv
    unfold Utf8.valid at hv'
    simp only [Bool.or_eq_true, Bool.and_eq_true, decide_eq_true_eq] at hv'
    obtain ⟨n, rfl⟩ : ∃ n : Nat, r = (n : Int) := ⟨r.toNat, by omega⟩
    have e : Utf8.encode (n : Int) = (if n < 0x80 then ⟨#[UInt8.ofNat n]⟩ else if n < 0x800 then ⟨#[UInt8.ofNat (0xC0 + n / 64), UInt8.ofNat (0x80 + n % 64)]⟩ else if n < 0x10000 then ⟨#[UInt8.ofNat (0xE0 + n / 4096), UInt8.ofNat (0x80 + n / 64 % 64), UInt8.ofNat (0x80 + n % 64)]⟩ else ⟨#[UInt8.ofNat (0xF0 + n / 262144), UInt8.ofNat (0x80 + n / 4096 % 64), UInt8.ofNat (0x80 + n / 64 % 64), UInt8.ofNat (0x80 + n % 64)]⟩) := by
      unfold Utf8.encode
      simp only [hv, if_true, Int.toNat_natCast]
    rw [e]
    by_cases h1 : n < 128
    · rw [if_pos h1, Lib.encodeRuneZ_one (by omega) (by omega)]
      simp only [List.map_cons, List.map_nil, Int.toNat_natCast]
      first | done | rfl
    rw [if_neg h1]
    by_cases h2 : n < 2048
    · rw [if_pos h2, Lib.encodeRuneZ_two (by omega) (by omega)]
      simp only [List.map_cons, List.map_nil]
      rw [show (192 + (n : Int) / 64).toNat = 192 + n / 64 by omega, show (128 + (n : Int) % 64).toNat = 128 + n % 64 by omega]
    rw [if_neg h2]
    by_cases h3 : n < 65536
    · rw [if_pos h3, Lib.encodeRuneZ_three (by omega)]
      simp only [List.map_cons, List.map_nil]
      rw [show (224 + (n : Int) / 4096).toNat = 224 + n / 4096 by omega, show (128 + (n : Int) / 64 % 64).toNat = 128 + n / 64 % 64 by omega, show (128 + (n : Int) % 64).toNat = 128 + n % 64 by omega]
    rw [if_neg h3, Lib.encodeRuneZ_four (by omega) (by omega)]
    simp only [List.map_cons, List.map_nil]
    rw [show (240 + (n : Int) / 262144).toNat = 240 + n / 262144 by omega, show (128 + (n : Int) / 4096 % 64).toNat = 128 + n / 4096 % 64 by omega, show (128 + (n : Int) / 64 % 64).toNat = 128 + n / 64 % 64 by omega, show (128 + (n : Int) % 64).toNat = 128 + n % 64 by omega]
  · have hv' := hv
    unfold Utf8.valid at hv'
    simp only [Bool.or_eq_true, Bool.and_eq_true, decide_eq_true_eq] at hv'
    rw [Lib.encodeRuneZ_bad (by omega)]
    have e : Utf8.encode r = ⟨#[239, 191, 189]⟩ := by
      unfold Utf8.encode
      rw [if_neg hv]
      rfl
    rw [e]
    rfl
theorem vd_one {l : List UInt8} (h : Vd l) (hne : l ≠ []) : Lib.encodeRune ((Lib.decodeL l).1 : Int) = l.take (Lib.decodeL l).2 ∧ Vd (l.drop (Lib.decodeL l).2) ∧
    (((Lib.decodeL l).1 = 10 ∨ (Lib.decodeL l).1 = 13) → stripL (l.take (Lib.decodeL l).2) = []) ∧ (¬ ((Lib.decodeL l).1 = 10 ∨ (Lib.decodeL l).1 = 13) → stripL (l.take (Lib.decodeL l).2) = l.take (Lib.decodeL l).2) := by
  obtain ⟨h0, h3, h4, h5⟩ := vd_sz h hne
  have hs : szL l = (Lib.decodeL l).2 ∧ ¬ ((Lib.decodeL l).1 = 65533 ∧ (Lib.decodeL l).2 = 1) := by
    unfold szL at h0 ⊢
    rw [if_neg hne] at h0 ⊢
    split at h0
    · exact absurd rfl h0
    · rename_i hb
      rw [if_neg hb]
      exact ⟨rfl, hb⟩
  have he := Lib.encode_decode l hne hs.2
  rw [← hs.1] at he ⊢
  refine ⟨he, h4, fun hr => ?_, fun hr => ?_⟩
  · rw [← he]
    rcases hr with hr | hr <;> rw [hr] <;> decide
  · obtain ⟨h1, h2⟩ := szL_app l [] h0
    rw [List.append_nil] at h1
    have hne2 : l.take (szL l) ≠ [] := by intro e4; have := congrArg List.length e4; rw [h2] at this; simp at this; omega
    unfold stripL
    rw [List.filter_eq_self]
    rcases piece_is _ hne2 (h1.trans h2.symm) with ⟨c, hc, hlt⟩ | hh
    · intro b hb
      rw [hc] at hb
      obtain rfl : b = c := by simpa using hb
      have key : (Lib.decodeL l).1 = b.toNat := by
        have hz : (Lib.encodeRune ((Lib.decodeL l).1 : Int)) = [b] := he.trans hc
        have hr127 : (Lib.decodeL l).1 ≤ 127 := by
          rcases Nat.lt_or_ge 127 (Lib.decodeL l).1 with q | q
          · exfalso
            have h2 : 2 ≤ (Lib.encodeRune ((Lib.decodeL l).1 : Int)).length := by
              unfold Lib.encodeRune Lib.encodeRuneZ
              rw [List.length_map, if_neg (by omega)]
              split
              · simp
              · split
                · simp
                · split <;> simp
            rw [hz] at h2
            simp at h2
          · exact q
        unfold Lib.encodeRune at hz
        rw [Lib.encodeRuneZ_one (by omega) (by omega)] at hz
        simp only [List.map_cons, List.map_nil, Int.toNat_natCast, List.cons.injEq, and_true] at hz
        rw [← hz]
        simp; omega
      have e1 : b ≠ 10 := fun e => hr (.inl (by rw [key, e]; rfl))
      have e2 : b ≠ 13 := fun e => hr (.inr (by rw [key, e]; rfl))
      simp [e1, e2]
    · intro b hb
      have := hh b hb
      have e1 : b ≠ 10 := fun e => by subst e; simp at this
      have e2 : b ≠ 13 := fun e => by subst e; simp at this
      simp [e1, e2]
theorem strip_app (a b : List UInt8) : stripL (a ++ b) = stripL a ++ stripL b := by unfold stripL; rw [List.filter_append]
set_option maxHeartbeats 4000000 in
set_option maxRecDepth 1000000 in
theorem rclean_any (x : List UInt8) (area : Bool) (w : World) (hx : x.length ≤ 10000) :
    Calls Tryz.prog 18 #[.string ⟨x.toArray⟩, .bool area] w fun e w' => e = .returned (.string ⟨(cleanL area x).toArray⟩) ∧ Below w.heap.size w w' := by
  have HR := Lib.hid (repairR_any x w (by omega))
  have hfl := fix_len x
  rw [fix_rfix] at hfl
  have hvd : Vd (rfix x) := rfix_rfix x
  unfold cleanL
  generalize rfix x = y at *
  cases area with
  | true =>
    rw [if_pos rfl]
    go_enter Tryz.func18, Tryz.ntmps18
    go_wp2_with fail
    refine HR.out.mono ?_
    rintro e w1 ⟨rfl, hb1⟩
    go_wp2_with fail
    go_ret
    exact ⟨rfl, hb1⟩
  | false =>
    rw [if_neg (by simp)]
    have hsz : (⟨y.toArray⟩ : ByteArray).size = y.length := by show y.toArray.size = _; simp
    have hyl : (⟨y.toArray⟩ : ByteArray).data.toList = y := rfl
    generalize hss : (⟨y.toArray⟩ : ByteArray) = s at *
    go_enter Tryz.func18, Tryz.ntmps18
    go_wp2_with fail
    refine HR.out.mono ?_
    rintro e w0 ⟨rfl, hb0⟩
    go_wp2_with fail
    go_loopw [5] (fun ov wr => ∃ (pos : Nat) (acc : List UInt8), ov = .string ⟨acc.toArray⟩ ∧ wr.heap[w0.heap.size]? = some (.stringIter s pos) ∧ Below w0.heap.size w0 wr ∧ acc ++ stripL (y.drop pos) = stripL y ∧ Vd (y.drop pos) ∧ pos ≤ s.size) (fun _ wr => s.size - wr.iterPos w0.heap.size)
    case atStart =>
      refine ⟨0, [], rfl, ?_, (Below.refl _ w0).alloc (Nat.le_refl _) _, by simp, by simpa using hvd, Nat.zero_le _⟩
      have := World.iter_heap w0 s 0
      simpa using this
    case round =>
      obtain ⟨pos, acc, rfl, hit, hbw, hacc, hvr, hps⟩ := hrel
      have hszl : w0.heap.size < wr.heap.size := (Array.getElem?_eq_some_iff.1 hit).1
      by_cases hp : pos < s.size
      · have hnx : ∀ ty, (Instr.next (.pointer (some ⟨w0.heap.size, 0, none⟩)) true ty).run Tryz.prog wr = _ := fun ty => Lib.run_next_any_at wr w0.heap.size s pos ty hit hp
        have hwd := width_pos s pos hp
        have hd1 := decode_le s pos
        have hit2 := Lib.iterAt_heap wr w0.heap.size s pos (pos + (Utf8.decode s pos).2) hit
        have hbw2 := Lib.below_iterAt hbw (k := w0.heap.size) (by omega) s (pos + (Utf8.decode s pos).2)
        have hne : y.drop pos ≠ [] := by intro e; have := congrArg List.length e; rw [List.length_drop] at this; simp at this; omega
        have hdl : Utf8.decode s pos = Lib.decodeL (y.drop pos) := by rw [decodeL_at, hyl]
        obtain ⟨he, hv2, hr1, hr2⟩ := vd_one hvr hne
        rw [← hdl] at he hv2 hr1 hr2
        have hen : Utf8.encode ((Utf8.decode s pos).1 : Int) = ⟨((y.drop pos).take (Utf8.decode s pos).2).toArray⟩ := by rw [encode_is, he]
        have hacc2 : acc ++ (stripL ((y.drop pos).take (Utf8.decode s pos).2) ++ stripL (y.drop (pos + (Utf8.decode s pos).2))) = stripL y := by
          rw [← strip_app, ← List.drop_drop, List.take_append_drop]; exact hacc
        rw [List.drop_drop] at hv2
        have hal : acc.length + (y.drop pos).length ≤ 2 * y.length + 0 := by
          have h1 := congrArg List.length hacc
          rw [List.length_append] at h1
          have h2 := strip_len y
          rw [List.length_drop]
          omega
        have htl : ((y.drop pos).take (Utf8.decode s pos).2).length ≤ y.length := by rw [List.length_take, List.length_drop]; omega
        generalize hpc : (y.drop pos).take (Utf8.decode s pos).2 = pc at *
        have hps2 : pos + (Utf8.decode s pos).2 ≤ s.size := by
          have := Lib.decodeL_le _ hne
          rw [← hdl, List.length_drop] at this
          omega
        have hit0 := hit
        have hyl2 : y.length ≤ 40000 := by omega
        have HF := Lib.hid (And.intro hacc2 (And.intro hv2 (And.intro hbw2 hit2)))
        clear hacc hvr hne hdl he hacc2 hv2 hbw hit hpc hbw2 hit2 HR hvd hfl
        generalize (Utf8.decode s pos).1 = rr at *
        generalize (Utf8.decode s pos).2 = nn at *
        by_cases h10 : rr = 10
        · subst h10
          have hs0 := hr1 (.inl rfl)
          clear hr1 hr2 hen
          go_wp2_with fail
          go_roundw
          case rel =>
            obtain ⟨a, b, c, d⟩ := HF.out
            rw [hs0, List.nil_append] at a
            exact ⟨pos + nn, acc, rfl, d, c, a, b, hps2⟩
          case measure =>
            obtain ⟨a, b, c, d⟩ := HF.out
            simp only [World.iterPos, d, hit0]
            omega
        · by_cases h13 : rr = 13
          · subst h13
            have hs0 := hr1 (.inr rfl)
            clear hr1 hr2 hen
            go_wp2_with fail
            go_roundw
            case rel =>
              obtain ⟨a, b, c, d⟩ := HF.out
              rw [hs0, List.nil_append] at a
              exact ⟨pos + nn, acc, rfl, d, c, a, b, hps2⟩
            case measure =>
              obtain ⟨a, b, c, d⟩ := HF.out
              simp only [World.iterPos, d, hit0]
              omega
          · have hs0 := hr2 (by omega)
            have e1 : ((rr : Int) != 10) = true := by simp; omega
            have e2 : ((rr : Int) != 13) = true := by simp; omega
            have hb1 : ¬ 9223372036854775807 < acc.length + pc.length := by omega
            have H1 := Lib.hid h10
            have H2 := Lib.hid h13
            clear hr1 hr2 h10 h13
            go_wp2_with fail
            go_roundw
            case rel =>
              obtain ⟨a, b, c, d⟩ := HF.out
              rw [hs0, ← List.append_assoc] at a
              refine ⟨pos + nn, acc ++ pc, ?_, d, c, a, b, hps2⟩
              rw [← bytes_app]
            case measure =>
              obtain ⟨a, b, c, d⟩ := HF.out
              simp only [World.iterPos, d, hit0]
              omega
      · have hnx : ∀ ty, (Instr.next (.pointer (some ⟨w0.heap.size, 0, none⟩)) true ty).run Tryz.prog wr = _ := fun ty => Lib.run_next_end_at wr w0.heap.size s pos ty hit hp
        go_wp2_with fail
        go_ret
        have e : y.drop pos = [] := List.drop_eq_nil_of_le (by omega)
        rw [e] at hacc
        have hs0 : stripL [] = [] := rfl
        rw [hs0, List.append_nil] at hacc
        subst hacc
        exact ⟨rfl, hb0.trans (hbw.mono hb0.size)⟩
end Go.Proofs.YtacdbnhnhdlmpaaGreatDoor.W
end
