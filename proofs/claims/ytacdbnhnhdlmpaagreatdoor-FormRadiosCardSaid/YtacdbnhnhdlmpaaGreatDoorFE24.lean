/- Texts joined: Fin FmU EdO Fed EdA. -/
import Derived.Test.YtacdbnhnhdlmpaaGreatDoorFE21
import Derived.Test.YtacdbnhnhdlmpaaGreatDoorFE23
import Derived.Test.YtacdbnhnhdlmpaaGreatDoorFE16
import Derived.Test.YtacdbnhnhdlmpaaGreatDoorFE20
import Derived.Deep.RegionLaw
import Derived.Deep.CutBlock
import Derived.Deep.Upon
set_option maxRecDepth 100000
set_option maxHeartbeats 40000000
set_option linter.unusedVariables false
set_option linter.unusedSimpArgs false
section
namespace Go.Proofs.YtacdbnhnhdlmpaaGreatDoor.W
open Go.RowKit
structure FOk (N : Nat) (F : FT) : Prop where
  vd : Vd F.val
  le : F.st ≤ F.en
  in_ : F.en ≤ nL F.val
  n : F.val.length ≤ N
  few : F.undo.length + F.redo.length ≤ 100
theorem clean_len (area : Bool) (x : List UInt8) : (cleanL area x).length ≤ 4 * x.length := by
  have := fix_len x
  rw [fix_rfix] at this
  unfold cleanL
  split
  · exact this
  · exact Nat.le_trans (strip_len _) this
section
variable {B : Nat} {w0 w : World} {Q R N : Nat} {foc hd : Int} {l : List Ob} {O : Ob} {k : Nat} {v : List UInt8} {F : FT}
set_option maxRecDepth 100000 in
set_option maxHeartbeats 4000000 in
theorem insert_one (h : FsAt B w0 Q foc hd v l F w) (hO : O ∈ l) (hF : FdOk B w0 R O hd k v) (hk : k = 1 ∨ k = 2) (hv : v.length ≤ 10000000) (hL : ∀ wx, Below B w0 wx → Laid wx) (hok : FOk N F) (hN : N ≤ 900000) (x : List UInt8) (hx : x.length ≤ 10000) :
    Calls Tryz.prog 17 #[.pointer (some ⟨Q, 0, none⟩), .pointer (some ⟨R, 0, none⟩), .int .i64 hd, .string ⟨x.toArray⟩] w fun e w' => e = .returned (.int .i64 0) ∧ FsAt B w0 Q foc hd v l (F.ins (cleanL (decide (k = 2)) x)) w' := by
  have hcl := clean_len (decide (k = 2)) x
  have hn := hok.n
  have hle := hok.le
  have hin := hok.in_
  have hfew := hok.few
  have HS := Lib.hid (selection_one h hO hF hk (by omega) hin (by omega))
  have HC := Lib.hid (fun wx (hb : Below w.heap.size w wx) => clean_any (h.rest.still hb) hO hF hk hL x hx)
  have HR := Lib.hid (fun wx (hb : Below w.heap.size w wx) => replace_one (h.still hb) hO hF hk hv hL hok.vd (by omega) F.st F.en (cleanL (decide (k = 2)) x) F.st F.en (.inl ⟨hle, hin⟩) (by omega))
  clear h hF hO hok
  unfold FT.ins
  generalize cleanL (decide (k = 2)) x = y at *
  go_enter Tryz.func17, Tryz.ntmps17
  go_wp2_with fail
  refine HS.out.mono ?_
  rintro e w1 ⟨rfl, hb1⟩
  go_wp2_with fail
  refine (HC.out _ hb1).mono ?_
  rintro e w2 ⟨rfl, hb2⟩
  go_wp2_with fail
  refine (HR.out _ (bthen hb1 hb2)).mono ?_
  rintro e w3 ⟨rfl, h3⟩
  have H3 := Lib.hid h3
  clear h3
  go_wp2_with fail
  go_ret
  exact ⟨rfl, H3.out⟩
set_option maxRecDepth 100000 in
set_option maxHeartbeats 4000000 in
theorem delete_one (h : FsAt B w0 Q foc hd v l F w) (hO : O ∈ l) (hF : FdOk B w0 R O hd k v) (hk : k = 1 ∨ k = 2) (hv : v.length ≤ 10000000) (hL : ∀ wx, Below B w0 wx → Laid wx) (hok : FOk N F) (hN : N ≤ 900000) (fw : Bool) :
    Calls Tryz.prog 20 #[.pointer (some ⟨Q, 0, none⟩), .pointer (some ⟨R, 0, none⟩), .int .i64 hd, .bool fw] w fun e w' => e = .returned (.int .i64 0) ∧ FsAt B w0 Q foc hd v l (F.del fw) w' := by
  have hn := hok.n
  have hle := hok.le
  have hin := hok.in_
  have hfew := hok.few
  have hnl := nL_le F.val
  have HS := Lib.hid (selection_one h hO hF hk (by omega) hin (by omega))
  have HR := Lib.hid (fun (a b : Nat) (hab : (a ≤ b ∧ b ≤ nL F.val) ∨ (a = nL F.val ∧ b = nL F.val + 1 ∧ ([] : List UInt8) = [])) wx (hb : Below w.heap.size w wx) => replace_one (h.still hb) hO hF hk hv hL hok.vd (by omega) a b [] F.st F.en hab (by simp; omega))
  clear h hF hO hok
  have H3e : (⟨([] : List UInt8).toArray⟩ : ByteArray) = ⟨#[]⟩ := rfl
  rw [H3e] at HR
  unfold FT.del
  by_cases he : F.st = F.en
  · rw [if_pos he]
    rw [he] at HS HR ⊢
    cases fw with
    | true =>
      rw [if_pos rfl]
      go_enter Tryz.func20, Tryz.ntmps20
      go_wp2_with fail
      refine HS.out.mono ?_
      rintro e w1 ⟨rfl, hb1⟩
      go_wp2_with fail
      refine (HR.out F.en (F.en + 1) (by by_cases q : F.en < nL F.val; exact Or.inl ⟨by omega, by omega⟩; exact Or.inr ⟨by omega, by omega, trivial⟩) _ hb1).mono ?_
      rintro e w3 ⟨rfl, h3⟩
      have H3 := Lib.hid h3
      clear h3
      go_wp2_with fail
      go_ret
      exact ⟨rfl, H3.out⟩
    | false =>
      rw [if_neg (by simp)]
      have hmx : max ((F.en : Int) - 1) 0 = ((F.en - 1 : Nat) : Int) := by omega
      go_enter Tryz.func20, Tryz.ntmps20
      go_wp2_with fail
      refine HS.out.mono ?_
      rintro e w1 ⟨rfl, hb1⟩
      go_wp2_with fail
      refine (HR.out (F.en - 1) F.en (by omega) _ hb1).mono ?_
      rintro e w3 ⟨rfl, h3⟩
      have H3 := Lib.hid h3
      clear h3
      go_wp2_with fail
      go_ret
      exact ⟨rfl, H3.out⟩
  · rw [if_neg he]
    have hef : ((F.st : Int) == (F.en : Int)) = false := by simp; omega
    go_enter Tryz.func20, Tryz.ntmps20
    go_wp2_with fail
    refine HS.out.mono ?_
    rintro e w1 ⟨rfl, hb1⟩
    clear he
    go_wp2_with fail
    refine (HR.out F.st F.en (by omega) _ hb1).mono ?_
    rintro e w3 ⟨rfl, h3⟩
    have H3 := Lib.hid h3
    clear h3
    go_wp2_with fail
    go_ret
    exact ⟨rfl, H3.out⟩
set_option maxRecDepth 100000 in
set_option maxHeartbeats 4000000 in
theorem setValue_one (h : FsAt B w0 Q foc hd v l F w) (hO : O ∈ l) (hF : FdOk B w0 R O hd k v) (hk : k = 1 ∨ k = 2) (hv : v.length ≤ 10000000) (hL : ∀ wx, Below B w0 wx → Laid wx) (x : List UInt8) (hx : x.length ≤ 10000) :
    Calls Tryz.prog 37 #[.pointer (some ⟨Q, 0, none⟩), .pointer (some ⟨R, 0, none⟩), .int .i64 hd, .string ⟨x.toArray⟩] w fun e w' => e = .returned (.int .i64 0) ∧ FsAt B w0 Q foc hd v l (F.set (cleanL (decide (k = 2)) x)) w' := by
  have hcl := clean_len (decide (k = 2)) x
  have HK := Lib.hid (hF.kindA hO h.rest)
  have HW := Lib.hid (written_yes hk)
  have HC := Lib.hid (fun wx (hb : Below w.heap.size w wx) => clean_any (h.rest.still hb) hO hF hk hL x hx)
  have HDi := Lib.hid (fun wx (hb : Below w.heap.size w wx) => dirty_one (h.still hb) hO hF hv)
  have HLx := Lib.hid (fun wx => len_n (cleanL (decide (k = 2)) x) wx (by omega))
  have hsz : (⟨(cleanL (decide (k = 2)) x).toArray⟩ : ByteArray).size ≤ 40000 := by show (cleanL (decide (k = 2)) x).toArray.size ≤ _; simp; omega
  clear h hF hO
  unfold FT.set
  generalize cleanL (decide (k = 2)) x = y at *
  go_enter Tryz.func37, Tryz.ntmps37
  go_wp2_with fail
  refine HK.out.mono ?_
  rintro e w1 ⟨rfl, hb1⟩
  go_wp2_with fail
  refine (HW.out _).mono ?_
  rintro e w2 ⟨rfl, hw⟩
  subst hw
  go_wp2_with fail
  refine (HC.out _ hb1).mono ?_
  rintro e w3 ⟨rfl, hb3⟩
  have hb3' := bthen hb1 hb3
  have hds : decide ((1048576 : Int) < (((⟨y.toArray⟩ : ByteArray).size : Nat) : Int)) = false := by simp; omega
  generalize hNV : (⟨y.toArray⟩ : ByteArray) = NV at *
  have HNV := Lib.hid hNV
  clear hNV hb1 hb3
  go_wp2_with fail
  refine (HDi.out _ hb3').mono ?_
  rintro e w4 ⟨g, cap, tc, ck, u, r, rfl, hA⟩
  obtain ⟨c2, f2⟩ := one_cell hA (j := 2) (by omega)
  have hA2 := one_set hA ⟨hd, true, tc, ck, { F with val := y }, u, r⟩ 2 (.string NV) (by rw [← HNV.out]; rfl)
  have HA2 := Lib.hid hA2
  clear hA hA2 hb3'
  go_wp2_with fail
  refine (HLx.out _).mono ?_
  rintro e w5 ⟨rfl, hb5⟩
  have hA5 := HA2.out.still hb5
  obtain ⟨c5, f5⟩ := one_cell hA5 (j := 5) (by omega)
  obtain ⟨c6, f6⟩ := one_cell hA5 (j := 6) (by omega)
  obtain ⟨c7, f7⟩ := one_cell hA5 (j := 7) (by omega)
  obtain ⟨c8, f8⟩ := one_cell hA5 (j := 8) (by omega)
  have hA6 := one_set hA5 ⟨hd, true, tc, ck, { F with val := y, st := nL y }, u, r⟩ 5 (.int .i64 (nL y : Int)) rfl
  have hA7 := one_set hA6 ⟨hd, true, tc, ck, { F with val := y, st := nL y, en := nL y }, u, r⟩ 6 (.int .i64 (nL y : Int)) rfl
  have hA8 := one_set hA7 ⟨hd, true, tc, ck, { F with val := y, st := nL y, en := nL y }, .slice none 0 0, r⟩ 7 (.slice none 0 0) rfl
  have hA9 := one_set hA8 ⟨hd, true, tc, ck, ⟨y, nL y, nL y, [], []⟩, .slice none 0 0, .slice none 0 0⟩ 8 (.slice none 0 0) rfl
  have hB1 := All.ro0 (oneL Q g cap foc ⟨hd, true, tc, ck, ⟨y, nL y, nL y, [], []⟩, .slice none 0 0, .slice none 0 0⟩) 126 5 hA9
  have HB2 := Lib.hid (All.ro0 (oneL Q g cap foc ⟨hd, true, tc, ck, ⟨y, nL y, nL y, [], []⟩, .slice none 0 0, .slice none 0 0⟩ ++ [ro 126 5 (.slice none 0 0) 0 []]) 126 5 hB1)
  clear hA5 hA6 hA7 hA8 hA9 hB1 hb5 c2 f2
  go_wp2_with fail
  go_ret
  exact ⟨rfl, FsAt.of HB2.out⟩
end
theorem Ag.ok {N : Nat} {F : FT} {E : RE} (h : Ag N F E) : FOk N F := ⟨h.vd, h.le, h.in_, h.n, h.few⟩
theorem Ag.undo_ok {N : Nat} {F : FT} {E : RE} (h : Ag N F E) (hu : F.undo ≠ []) : ∃ us x, F.undo = us ++ [x] ∧ x.at_ + nL x.new ≤ nL F.val ∧ x.new.length ≤ N ∧ x.old.length ≤ N := by
  rcases h.und.last with ⟨e, _⟩ | ⟨us, cs, x, c, e1, e2, _, k, ev⟩
  · exact absurd e hu
  · obtain ⟨a, z, ha, hz, ho, hn, v1, v2, hat⟩ := k.ex
    refine ⟨us, x, e1, ?_, ?_, ?_⟩
    · rw [ev, v2, nL_app _ ha, nL_app _ hn, hat]; omega
    · have := k.n2; rw [v2] at this; simp at this; omega
    · have := k.n1; rw [v1] at this; simp at this; omega
theorem Ag.redo_ok {N : Nat} {F : FT} {E : RE} (h : Ag N F E) (hu : F.redo ≠ []) : ∃ us x, F.redo = us ++ [x] ∧ x.at_ + nL x.old ≤ nL F.val ∧ x.new.length ≤ N ∧ x.old.length ≤ N := by
  rcases h.red.last with ⟨e, _⟩ | ⟨us, cs, x, c, e1, e2, _, k, ev⟩
  · exact absurd e hu
  · obtain ⟨a, z, ha, hz, ho, hn, v1, v2, hat⟩ := k.ex
    refine ⟨us, x, e1, ?_, ?_, ?_⟩
    · rw [ev, v1, nL_app _ ha, nL_app _ ho, hat]; omega
    · have := k.n2; rw [v2] at this; simp at this; omega
    · have := k.n1; rw [v1] at this; simp at this; omega
def moC (m : Mo) : List Value := [strV m.val, .int .i64 (m.st : Int), .int .i64 (m.en : Int)]
def chC (c : Mo × Mo) : List Value := [strV c.1.val, .int .i64 (c.1.st : Int), .int .i64 (c.1.en : Int), strV c.2.val, .int .i64 (c.2.st : Int), .int .i64 (c.2.en : Int)]
theorem chC_len (c : Mo × Mo) : (chC c).length = 6 := rfl
theorem chC_one (c : Mo × Mo) : ∀ u ∈ chC c, u.oneCell' = true := by
  intro u hu
  simp only [chC, List.mem_cons, List.not_mem_nil, or_false] at hu
  rcases hu with rfl | rfl | rfl | rfl | rfl | rfl <;> rfl
def edC (ar : Bool) (E : RE) (uv rv : Value) : List Value := [.bool ar, strV E.now.val, .int .i64 (E.now.st : Int), .int .i64 (E.now.en : Int), uv, rv]
theorem etC : ET Tryz.prog 49 179 6 64 := ET.mk' (z := .agg #[.string ⟨#[]⟩, .int .i64 0, .int .i64 0, .string ⟨#[]⟩, .int .i64 0, .int .i64 0]) Tryz.underlying49 (by kernel_rfl) rfl (by omega)
def rdF : Value → Nat → Prop
  | .slice (some a) (_ + 1) _, k => a.block = k
  | _, _ => False
def Rd (w : World) (v : Value) (cs : List (Mo × Mo)) : Prop :=
  (v = .slice none 0 0 ∧ cs = []) ∨ ∃ g o c, v = .slice (some ⟨g, o, none⟩) cs.length c ∧ cs.length ≤ c ∧ c ≤ maxLen ∧ ∀ j u, (rows chC cs)[j]? = some u → w.cell? ⟨g, o + j, none⟩ = some u
theorem cell_heap {w w' : World} {g o : Nat} (h : w'.heap[g]? = w.heap[g]?) : w'.cell? ⟨g, o, none⟩ = w.cell? ⟨g, o, none⟩ := by
  simp only [World.cell?, h]
theorem cell_lt {w : World} {g o : Nat} {u : Value} (h : w.cell? ⟨g, o, none⟩ = some u) : g < w.heap.size := by
  by_cases hg : g < w.heap.size
  · exact hg
  · exfalso
    simp only [World.cell?, Array.getElem?_eq_none (Nat.le_of_not_lt hg)] at h
    cases h
theorem Rd.kept {w w' : World} {v : Value} {cs : List (Mo × Mo)} (h : Rd w v cs) (k : ∀ g, rdF v g → w'.heap[g]? = w.heap[g]?) : Rd w' v cs := by
  rcases h with h | ⟨g, o, c, rfl, h1, h2, h3⟩
  · exact .inl h
  · refine .inr ⟨g, o, c, rfl, h1, h2, fun j u hj => ?_⟩
    cases cs with
    | nil => simp [rows] at hj
    | cons x cs => rw [cell_heap (k g rfl)]; exact h3 j u hj
theorem Rd.lt {w : World} {v : Value} {cs : List (Mo × Mo)} (h : Rd w v cs) {g : Nat} (hg : rdF v g) : g < w.heap.size := by
  rcases h with ⟨rfl, _⟩ | ⟨g', o, c, rfl, h1, h2, h3⟩
  · exact hg.elim
  · cases cs with
    | nil => exact hg.elim
    | cons x cs =>
      obtain rfl : g' = g := hg
      exact cell_lt (h3 0 _ rfl)
theorem Rd.below {w w' : World} {v : Value} {cs : List (Mo × Mo)} (h : Rd w v cs) (hb : Below w.heap.size w w') : Rd w' v cs := h.kept (fun g hg => hb.block g (h.lt hg))
theorem Rd.shape {w : World} {v : Value} {cs : List (Mo × Mo)} (h : Rd w v cs) : ∃ a c, v = .slice a cs.length c := by
  rcases h with ⟨rfl, rfl⟩ | ⟨g, o, c, rfl, h1, h2, h3⟩
  · exact ⟨_, _, rfl⟩
  · exact ⟨_, _, rfl⟩
theorem Rd.nil (w : World) : Rd w (.slice none 0 0) [] := .inl ⟨rfl, rfl⟩
theorem Rd.full {w : World} {v : Value} {cs : List (Mo × Mo)} (h : Rd w v cs) (hc : cs ≠ []) : ∃ g o c, v = .slice (some ⟨g, o, none⟩) cs.length c ∧ cs.length ≤ c ∧ c ≤ maxLen ∧ ∀ j u, (rows chC cs)[j]? = some u → w.cell? ⟨g, o + j, none⟩ = some u := by
  rcases h with ⟨_, e⟩ | h
  · exact absurd e hc
  · exact h
theorem Rd.pop {w : World} {g o c : Nat} {cs : List (Mo × Mo)} {x : Mo × Mo} (h : Rd w (.slice (some ⟨g, o, none⟩) (cs ++ [x]).length c) (cs ++ [x])) : Rd w (.slice (some ⟨g, o, none⟩) cs.length c) cs := by
  rcases h with ⟨e, _⟩ | ⟨g', o', c', e, h1, h2, h3⟩
  · cases e
  · cases e
    rw [List.length_append, List.length_singleton] at h1
    refine .inr ⟨g, o, c, rfl, by omega, h2, fun j u hj => h3 j u ?_⟩
    rw [rows_append, List.getElem?_append_left (List.getElem?_eq_some_iff.1 hj).1]
    exact hj
theorem Rd.shift {w : World} {g o n c : Nat} {cs : List (Mo × Mo)} {x : Mo × Mo} (h : Rd w (.slice (some ⟨g, o, none⟩) n c) (x :: cs)) : Rd w (.slice (some ⟨g, o + 1 * 6, none⟩) (n - 1) (c - 1)) cs := by
  rcases h with ⟨e, _⟩ | ⟨g', o', c', e, h1, h2, h3⟩
  · cases e
  · cases e
    rw [List.length_cons] at h1 ⊢
    refine .inr ⟨g, o + 1 * 6, c - 1, rfl, by omega, by omega, fun j u hj => ?_⟩
    rw [show o + 1 * 6 + j = o + (6 + j) by omega]
    refine h3 (6 + j) u ?_
    rw [show rows chC (x :: cs) = chC x ++ rows chC cs from rfl, List.getElem?_append_right (by simp [chC_len]), chC_len, Nat.add_sub_cancel_left]
    exact hj
theorem Rd.last {w : World} {g o c n : Nat} {cs : List (Mo × Mo)} {x : Mo × Mo} (h : Rd w (.slice (some ⟨g, o, none⟩) n c) (cs ++ [x])) (j : Nat) (hj : j < 6) : w.cell? ⟨g, o + cs.length * 6 + j, none⟩ = (chC x)[j]? := by
  rcases h with ⟨e, _⟩ | ⟨g', o', c', e, h1, h2, h3⟩
  · cases e
  · cases e
    obtain ⟨u, hu⟩ : ∃ u, (chC x)[j]? = Option.some u := ⟨_, List.getElem?_eq_getElem (by rw [chC_len]; exact hj)⟩
    rw [hu, Nat.add_assoc]
    refine h3 _ u ?_
    rw [rows_append, List.getElem?_append_right (by rw [rows_len chC_len]; omega), rows_len chC_len, Nat.add_sub_cancel_left]
    simpa [rows] using hu
def co (L : List (Value × List (Mo × Mo))) : Ob :=
  ⟨fun w => ∀ p ∈ L, Rd w p.1 p.2, fun k => ∃ p ∈ L, rdF p.1 k, fun w h k ⟨p, hp, hk⟩ => (h p hp).lt hk, fun w w' h k p hp => (h p hp).kept (fun g hg => k g ⟨p, hp, hg⟩)⟩
theorem All.coAdd {B : Nat} {w0 w : World} (l1 : List Ob) {l2 : List Ob} {L : List (Value × List (Mo × Mo))} (h : All B w0 (l1 ++ co L :: l2) w) {v : Value} {cs : List (Mo × Mo)} (hr : Rd w v cs) (hf : ∀ k, rdF v k → ∃ p ∈ L, rdF p.1 k) :
    All B w0 (l1 ++ co ((v, cs) :: L) :: l2) w := by
  have hL : ∀ p ∈ L, Rd w p.1 p.2 := h.mid
  refine h.step l1 (o' := co ((v, cs) :: L)) ?_ (Chg.refl _ _) ?_
  · intro p hp
    rcases List.mem_cons.1 hp with rfl | hp
    · exact hr
    · exact hL p hp
  · rintro k ⟨p, hp, hk⟩
    rcases List.mem_cons.1 hp with rfl | hp
    · exact .inl (hf k hk)
    · exact .inl ⟨p, hp, hk⟩
theorem All.coNew {B : Nat} {w0 w w' : World} (l1 : List Ob) {l2 : List Ob} {L : List (Value × List (Mo × Mo))} (h : All B w0 (l1 ++ co L :: l2) w) (hb : Below w.heap.size w w') {v : Value} {cs : List (Mo × Mo)} (hr : Rd w' v cs) (hf : ∀ k, rdF v k → w.heap.size ≤ k) :
    All B w0 (l1 ++ co ((v, cs) :: L) :: l2) w' := by
  have hL : ∀ p ∈ L, Rd w p.1 p.2 := h.mid
  refine h.step l1 (o' := co ((v, cs) :: L)) ?_ (Chg.of_below hb) ?_
  · intro p hp
    rcases List.mem_cons.1 hp with rfl | hp
    · exact hr
    · exact (hL p hp).below hb
  · rintro k ⟨p, hp, hk⟩
    rcases List.mem_cons.1 hp with rfl | hp
    · exact .inr (hf k hk)
    · exact .inl ⟨p, hp, hk⟩
theorem Rd.own {w : World} {B : Nat} {v : Value} {cs : List (Mo × Mo)} (h : w.ownsRow B 179 6 v cs.length (rows chC cs)) : Rd w v cs ∧ ∀ k, rdF v k → B ≤ k := by
  have h0 := h
  obtain ⟨h1, h2⟩ := h
  rcases h2 with ⟨rfl, hn⟩ | ⟨g, cap, cur, rfl, hB, _, hc, hm, hsz, _⟩
  · exact ⟨.inl ⟨rfl, List.eq_nil_of_length_eq_zero hn⟩, fun k hk => hk.elim⟩
  · refine ⟨.inr ⟨g, 0, cap, rfl, hc, hm, fun j u hj => ?_⟩, fun k hk => ?_⟩
    · rw [Nat.zero_add, h0.cellAt j (by rw [← h1]; exact (List.getElem?_eq_some_iff.1 hj).1)]
      exact hj
    · cases hl : cs.length with
      | zero => rw [hl] at hk; exact hk.elim
      | succ n => rw [hl] at hk; obtain rfl : g = k := hk; exact hB
def EdAt (B : Nat) (w0 : World) (Q : Nat) (ar : Bool) (l : List Ob) (E : RE) (L : List (Value × List (Mo × Mo))) (w : World) : Prop :=
  ∃ uv rv, All B w0 (bk Q (edC ar E uv rv) 51 :: co L :: l) w ∧ (uv, E.undo) ∈ L ∧ (rv, E.redo) ∈ L
theorem EdAt.still {B : Nat} {w0 : World} {Q : Nat} {ar : Bool} {l : List Ob} {E : RE} {L : List (Value × List (Mo × Mo))} {w w' : World} (h : EdAt B w0 Q ar l E L w) (hb : Below w.heap.size w w') : EdAt B w0 Q ar l E L w' :=
  let ⟨uv, rv, h1, h2, h3⟩ := h; ⟨uv, rv, h1.still hb, h2, h3⟩
theorem perm_two {α : Type} (P : List α) (x y : α) (l : List α) : (P ++ x :: y :: l).Perm (x :: y :: (P ++ l)) := List.perm_middle.trans (List.perm_middle.cons x)
def FeAt (B : Nat) (w0 : World) (Q Z : Nat) (ar : Bool) (foc hd : Int) (v : List UInt8) (l : List Ob) (F : FT) (E : RE) (L : List (Value × List (Mo × Mo))) (w : World) : Prop :=
  ∃ uv rv, FsAt B w0 Q foc hd v (bk Z (edC ar E uv rv) 51 :: co L :: l) F w ∧ (uv, E.undo) ∈ L ∧ (rv, E.redo) ∈ L
section
variable {B : Nat} {w0 w : World} {Q Z : Nat} {ar : Bool} {foc hd : Int} {v : List UInt8} {l : List Ob} {F : FT} {E : RE} {L : List (Value × List (Mo × Mo))}
theorem FeAt.still {w' : World} (h : FeAt B w0 Q Z ar foc hd v l F E L w) (hb : Below w.heap.size w w') : FeAt B w0 Q Z ar foc hd v l F E L w' :=
  let ⟨uv, rv, h1, h2, h3⟩ := h; ⟨uv, rv, h1.still hb, h2, h3⟩
theorem FeAt.below (h : FeAt B w0 Q Z ar foc hd v l F E L w) : Below B w0 w := let ⟨_, _, h1, _, _⟩ := h; h1.rest.below
theorem FeAt.ed (h : FeAt B w0 Q Z ar foc hd v l F E L w) : ∃ l1, EdAt B w0 Z ar l1 E L w ∧ ∀ E' L' w', EdAt B w0 Z ar l1 E' L' w' → FeAt B w0 Q Z ar foc hd v l F E' L' w' := by
  obtain ⟨uv, rv, ⟨fa, X, u, r, h1, h2, h3, h4, h5⟩, hu, hr⟩ := h
  rw [← List.append_assoc] at h5
  refine ⟨(fsL Q fa foc X ++ edO u r F) ++ l, ⟨uv, rv, h5.perm (perm_two _ _ _ _), hu, hr⟩, ?_⟩
  rintro E' L' w' ⟨uv', rv', hA, hu', hr'⟩
  refine ⟨uv', rv', ⟨fa, X, u, r, h1, h2, h3, h4, ?_⟩, hu', hr'⟩
  rw [← List.append_assoc]
  exact hA.perm (perm_two _ _ _ _).symm
theorem FeAt.fs (h : FeAt B w0 Q Z ar foc hd v l F E L w) : ∃ l1, (∀ o ∈ l, o ∈ l1) ∧ FsAt B w0 Q foc hd v l1 F w ∧ ∀ F' w', FsAt B w0 Q foc hd v l1 F' w' → FeAt B w0 Q Z ar foc hd v l F' E L w' := by
  obtain ⟨uv, rv, h1, hu, hr⟩ := h
  exact ⟨_, fun o ho => List.mem_cons_of_mem _ (List.mem_cons_of_mem _ ho), h1, fun F' w' h' => ⟨uv, rv, h', hu, hr⟩⟩
end
def NR (B : Nat) (w : World) (v : Value) (cs : List (Mo × Mo)) : Prop :=
  (∃ b, v = .slice (some b) 0 0 ∧ cs = []) ∨ w.ownsRow B 179 6 v cs.length (rows chC cs)
theorem NR.below {B : Nat} {w w' : World} {v : Value} {cs : List (Mo × Mo)} (h : NR B w v cs) (hb : Below w.heap.size w w') : NR B w' v cs := h.imp id (fun h => own_keepB h hb)
theorem NR.shape {B : Nat} {w : World} {v : Value} {cs : List (Mo × Mo)} (h : NR B w v cs) : ∃ a c, v = .slice a cs.length c := by
  rcases h with ⟨b, rfl, rfl⟩ | h
  · exact ⟨_, _, rfl⟩
  · exact own_shapeB h
theorem below_alloc {W w : World} (h : Below W.heap.size W w) (o : Obj) : Below W.heap.size W (w.alloc o) := h.alloc h.size o
theorem chC_rows (cs : List (Mo × Mo)) : (rows chC cs).length = cs.length * 6 := rows_len chC_len cs
theorem run_append_new {P : Program} {t ty : TypeId} {bytes : Nat} (hT : ET P t 179 6 bytes) (w : World) (b : Addr) {sv : Value} {cs : List (Mo × Mo)} (hs : Rd w sv cs) (hlen : cs.length ≤ 1000000000) (hby : bytes ≤ 1000) :
    ∃ v' w', (Builtin.append_ #[t, t] ty #[.slice (some b) 0 0, sv]).run P w = .ok v' w' ∧ Below w.heap.size w w' ∧ NR w.heap.size w' v' cs := by
  obtain ⟨i, z, hi, hz0, hz1, hz2, hz3⟩ := hT.info
  have hmul : cs.length * bytes ≤ 1000000000 * 1000 := Nat.mul_le_mul hlen hby
  have nothing : ∀ x, Src P i.size t x 0 [] w → ∃ v' w', (Builtin.append_ #[t, t] ty #[.slice (some b) 0 0, x]).run P w = .ok v' w' ∧ Below w.heap.size w w' ∧ NR w.heap.size w' v' [] := fun x hx =>
    ⟨_, _, run_append_nothing (P := P) w t t ty _ i hT.under hi (some b) 0 0 (Nat.le_refl _) x hx, Below.refl _ _, .inl ⟨b, rfl, rfl⟩⟩
  rcases hs with ⟨rfl, rfl⟩ | ⟨g, o, c, rfl, h1, h2, h3⟩
  · exact nothing _ (Src.ofNil w hT.under 0)
  · cases hcs : cs with
    | nil => 
      subst hcs
      exact nothing _ (Src.ofSlice w hT.under ⟨g, o, none⟩ 0 c [] (by simp) (by simp) (by simp))
    | cons x cs' =>
      rw [← hcs]
      have hpos : 0 < cs.length := by rw [hcs]; simp
      obtain ⟨v', w', hr, h4, h5⟩ := run_append_arg_grows (P := P) w t ty _ i z 6 bytes hT.under hi hz0 hz1 hz2 hz3 hT.pos b 0 0 [] (by simp) (by simp) ⟨g, o, none⟩ cs.length c (rows chC cs) (chC_rows cs) (fun j u hj => by rw [Go.WideShapes.add_plain]; exact h3 j u hj) (by omega) (by unfold maxLen; omega) (by rw [Nat.zero_add]; omega)
      exact ⟨v', w', hr, ⟨h5.os, h5.tape, h5.output, h5.size, fun k hk => h5.block k hk (by simp)⟩, .inr (by simpa using h4)⟩
theorem run_append_more {P : Program} {t ty : TypeId} {bytes : Nat} (hT : ET P t 179 6 bytes) {B : Nat} {w : World} (hB : B ≤ w.heap.size) {dv : Value} {cs : List (Mo × Mo)} (hd : NR B w dv cs) {gy : Nat} {x : Mo × Mo} (hs : ∀ j u, (chC x)[j]? = some u → w.cell? ⟨gy, j, none⟩ = some u) (hlen : cs.length ≤ 1000000) (hby : bytes ≤ 1000) :
    ∃ v' w', (Builtin.append_ #[t, t] ty #[dv, .slice (some ⟨gy, 0, none⟩) 1 1]).run P w = .ok v' w' ∧ Below B w w' ∧ w'.ownsRow B 179 6 v' (cs.length + 1) (rows chC (cs ++ [x])) := by
  obtain ⟨i, z, hi, hz0, hz1, hz2, hz3⟩ := hT.info
  have hmul : (cs.length + 1) * bytes ≤ 1000001 * 1000 := Nat.mul_le_mul (by omega) hby
  have hs' : ∀ j u, (chC x)[j]? = some u → w.cell? ((⟨gy, 0, none⟩ : Addr).add j) = some u := fun j u hj => by rw [Go.WideShapes.add_plain, Nat.zero_add]; exact hs j u hj
  rw [rows_snoc]
  rcases hd with ⟨b, rfl, rfl⟩ | hd
  · obtain ⟨v', w', hr, h4, h5⟩ := run_append_arg_grows (P := P) w t ty _ i z 6 bytes hT.under hi hz0 hz1 hz2 hz3 hT.pos b 0 0 [] (by simp) (by simp) ⟨gy, 0, none⟩ 1 1 (chC x) rfl hs' (by omega) (by unfold maxLen; omega) (by rw [Nat.zero_add, Nat.one_mul]; omega)
    exact ⟨v', w', hr, Below.mono (B := w.heap.size) ⟨h5.os, h5.tape, h5.output, h5.size, fun k hk => h5.block k hk (by simp)⟩ hB, own_low (by simpa [rows] using h4) hB⟩
  · obtain ⟨v', w', hr, h2, h3, _, h5⟩ := run_append_own_at (P := P) w B t ty _ i z 6 bytes hT.under hi hz0 hz1 hz2 hz3 hT.pos dv cs.length (rows chC cs) hd ⟨gy, 0, none⟩ 1 1 (chC x) rfl hs' (chC_one x) (by unfold maxLen; omega) (by omega) hB
    refine ⟨v', w', hr, ⟨h3.os, h3.tape, h3.output, h3.size, fun k hk => h3.block k (by omega) (fun e => ?_)⟩, h2⟩
    have := (hd.lt k e.symm).1
    omega
section
variable {P : Program} {t : TypeId} {bytes : Nat} {ops : Array Oper} {E : Prop} {o : Oper} {a : Act} {K : Act → World → Prop} {Q : Exit → Act → World → Prop}
theorem step_append_new (hT : ET P t 179 6 bytes) (hby : bytes ≤ 1000) {W w : World} (hW : Below W.heap.size W w) (b : Addr) {sv : Value} {cs : List (Mo × Mo)} (hs : Rd W sv cs) (hlen : cs.length ≤ 1000000000)
    (hgd : o.guard = none) (s x : Operand) (ho : o.op = .call { callee := .builtin .append, args := #[s, x], argTypes := #[t, t] }) (hd : a.eval s = .slice (some b) 0 0) (hx : a.eval x = sv)
    (hc : ∀ v' w', Below W.heap.size W w' → NR W.heap.size w' v' cs → (∀ g j u, w.cell? ⟨g, j, none⟩ = some u → w'.cell? ⟨g, j, none⟩ = some u) → K (a.put o.dst v') w') : if Region.wanted o (yielded ops a.tmps) = true then Oper.wp P o a w K Q else E := by
  have hw : Region.wanted o (yielded ops a.tmps) = true := by simp [Region.wanted, hgd]
  rw [if_pos hw]
  obtain ⟨v', w', hr, h2, h3⟩ := run_append_new (ty := o.type) hT w b (hs.below hW) hlen hby
  unfold Oper.wp execOp
  simp only [ho, resolve, invoke, builtin, Sem.run_bind, Sem.run_pure, Result.andThen_ok, List.map_toArray, List.map_cons, List.map_nil, hd, hx, hr]
  exact hc v' w' (bthen hW h2) (h3.imp id (fun h => own_low h hW.size)) (fun g j u hu => cell_keep h2 hu)
theorem step_append_more (hT : ET P t 179 6 bytes) (hby : bytes ≤ 1000) {W w : World} (hW : Below W.heap.size W w) {dv : Value} {cs : List (Mo × Mo)} (hn : NR W.heap.size w dv cs) {gy : Nat} {y : Mo × Mo} (hs : ∀ j u, (chC y)[j]? = some u → w.cell? ⟨gy, j, none⟩ = some u) (hlen : cs.length ≤ 1000000)
    (hgd : o.guard = none) (s x : Operand) (ho : o.op = .call { callee := .builtin .append, args := #[s, x], argTypes := #[t, t] }) (hd : a.eval s = dv) (hx : a.eval x = .slice (some ⟨gy, 0, none⟩) 1 1)
    (hc : ∀ v' w', Below W.heap.size W w' → w'.ownsRow W.heap.size 179 6 v' (cs.length + 1) (rows chC (cs ++ [y])) → K (a.put o.dst v') w') : if Region.wanted o (yielded ops a.tmps) = true then Oper.wp P o a w K Q else E := by
  have hw : Region.wanted o (yielded ops a.tmps) = true := by simp [Region.wanted, hgd]
  rw [if_pos hw]
  obtain ⟨v', w', hr, h2, h3⟩ := run_append_more (ty := o.type) hT hW.size hn hs hlen hby
  unfold Oper.wp execOp
  simp only [ho, resolve, invoke, builtin, Sem.run_bind, Sem.run_pure, Result.andThen_ok, List.map_toArray, List.map_cons, List.map_nil, hd, hx, hr]
  exact hc v' w' (hW.trans h2) h3
end
theorem rdF_up {a : Addr} {n c n' c' k : Nat} (h : rdF (.slice (some a) n c) k) (hn : 0 < n') : rdF (.slice (some a) n' c') k := by
  cases n with
  | zero => exact h.elim
  | succ n => cases n' with
    | zero => omega
    | succ n' => exact h
theorem two_new (W : World) (o : Obj) (cs : List Value) (ty : TypeId) (j : Nat) : ((W.alloc o).alloc (.cells cs.toArray ty)).cell? ⟨W.heap.size + 1, j, none⟩ = cs[j]? := by
  have := (Blk.new (W.alloc o) cs ty).cell j
  rwa [show (W.alloc o).heap.size = W.heap.size + 1 by simp] at this
theorem two_old (W : World) (o : Obj) (cs : List Value) (ty : TypeId) (j : Nat) : ((W.alloc (.cells cs.toArray ty)).alloc o).cell? ⟨W.heap.size, j, none⟩ = cs[j]? := ((Blk.new W cs ty).alloc o).cell j
end Go.Proofs.YtacdbnhnhdlmpaaGreatDoor.W
end
