/- Texts joined: Fst Top Mrk DcP Fnd Fld Fva. -/
import Derived.Test.YtacdbnhnhdlmpaaGreatDoorFB24
import Derived.Test.YtacdbnhnhdlmpaaGreatDoorFB23
import Derived.Test.YtacdbnhnhdlmpaaGreatDoorFB21
import Derived.Test.YtacdbnhnhdlmpaaGreatDoorFB12
import Derived.Test.YtacdbnhnhdlmpaaGreatDoorFB13
set_option maxRecDepth 100000
set_option maxHeartbeats 40000000
set_option linter.unusedVariables false
set_option linter.unusedSimpArgs false
section
namespace Go.Proofs.YtacdbnhnhdlmpaaGreatDoor.W
open Go.RowKit
def fixX (X : List FX) (hd : Int) : Option Nat := X.findIdx? fun x => x.node == hd
def idxX (X : List FX) (hd : Int) : Nat := (fixX X hd).getD X.length
def frX (hd : Int) : FX := ⟨hd, false, false, false, ⟨[], 0, 0, [], []⟩, .slice none 0 0, .slice none 0 0⟩
def getX (X : List FX) (hd : Int) : FX := ((fixX X hd).bind fun i => X[i]?).getD (frX hd)
def upX (X : List FX) (hd : Int) (x : FX) : List FX := match fixX X hd with | some i => X.set i x | none => X ++ [x]
theorem fix_some {X : List FX} {hd : Int} {i : Nat} (h : fixX X hd = some i) : i < X.length ∧ X[i]? = some (getX X hd) ∧ (getX X hd).node = hd ∧ ∀ j x, j < i → X[j]? = some x → x.node ≠ hd := by
  obtain ⟨hlt, h1, h2⟩ := List.findIdx?_eq_some_iff_getElem.1 h
  have hg : X[i]? = some (getX X hd) := by
    unfold getX
    rw [h, Option.bind_some, List.getElem?_eq_getElem hlt]
    rfl
  refine ⟨hlt, hg, ?_, fun j x hj hx => ?_⟩
  · rw [List.getElem?_eq_getElem hlt] at hg
    rw [← Option.some.inj hg]
    simpa using h1
  · obtain ⟨hjl, rfl⟩ := List.getElem?_eq_some_iff.1 hx
    have := h2 j hj
    simpa using this
theorem fix_none {X : List FX} {hd : Int} (h : fixX X hd = none) : (∀ x ∈ X, x.node ≠ hd) ∧ getX X hd = frX hd := by
  refine ⟨fun x hx => ?_, by unfold getX; rw [h]; rfl⟩
  rw [fixX, List.findIdx?_eq_none_iff] at h
  have := h x hx
  simpa using this
theorem fix_of {X : List FX} {hd : Int} {i : Nat} {x : FX} (hi : X[i]? = some x) (hx : x.node = hd) (hj : ∀ j y, j < i → X[j]? = some y → y.node ≠ hd) : fixX X hd = some i := by
  obtain ⟨hlt, he⟩ := List.getElem?_eq_some_iff.1 hi
  unfold fixX
  rw [List.findIdx?_eq_some_iff_getElem]
  refine ⟨hlt, by rw [he]; simpa using hx, fun j hj' => ?_⟩
  have := hj j (X[j]'(by omega)) hj' (List.getElem?_eq_getElem (by omega))
  simpa using this
theorem get_node (X : List FX) (hd : Int) : (getX X hd).node = hd := by
  cases h : fixX X hd with
  | none => rw [(fix_none h).2]; rfl
  | some i => exact (fix_some h).2.2.1
theorem up_at (X : List FX) (hd : Int) (x : FX) : (upX X hd x)[idxX X hd]? = some x := by
  unfold upX idxX
  cases h : fixX X hd with
  | none => simp
  | some i => have := (fix_some h).1; simp [this]
theorem up_set (X : List FX) (hd : Int) (x y : FX) : (upX X hd x).set (idxX X hd) y = upX X hd y := by
  unfold upX idxX
  cases h : fixX X hd with
  | none => simp
  | some i => simp
theorem up_self {X : List FX} {hd : Int} {i : Nat} (h : fixX X hd = some i) : upX X hd (getX X hd) = X := by
  obtain ⟨h1, h2, _⟩ := fix_some h
  unfold upX
  rw [h]
  obtain ⟨_, e⟩ := List.getElem?_eq_some_iff.1 h2
  show X.set i (getX X hd) = X
  rw [← e, List.set_getElem_self]
def OneF (hd : Int) (X : List FX) : Prop := X = [] ∨ ∃ x, X = [x] ∧ x.node = hd
theorem OneF.up {hd : Int} {X : List FX} (h : OneF hd X) {x : FX} (hx : x.node = hd) : upX X hd x = [x] ∧ OneF hd (upX X hd x) := by
  have : upX X hd x = [x] := by
    rcases h with rfl | ⟨y, rfl, hy⟩
    · rfl
    · unfold upX
      rw [fix_of (i := 0) (x := y) rfl hy (fun j _ hj => by omega)]
      rfl
  exact ⟨this, .inr ⟨x, this, hx⟩⟩
theorem OneF.len {hd : Int} {X : List FX} (h : OneF hd X) : X.length ≤ 1 := by rcases h with rfl | ⟨y, rfl, _⟩ <;> simp
def ftX (X : List FX) (hd : Int) (v : List UInt8) : FT := if (getX X hd).dirty then (getX X hd).t else FT.of v
structure FInv (X : List FX) (hd : Int) (v : List UInt8) : Prop where
  one : OneF hd X
  new : (getX X hd).dirty = false → (getX X hd).t.undo = [] ∧ (getX X hd).t.redo = []
theorem FInv.nil (hd : Int) (v : List UInt8) : FInv [] hd v := ⟨.inl rfl, fun _ => ⟨rfl, rfl⟩⟩

end Go.Proofs.YtacdbnhnhdlmpaaGreatDoor.W
end
section
namespace Go.Proofs.YtacdbnhnhdlmpaaGreatDoor.W
end Go.Proofs.YtacdbnhnhdlmpaaGreatDoor.W
end
section
namespace Go.Proofs.YtacdbnhnhdlmpaaGreatDoor.W
open Go.RowKit
def sName : List UInt8 := [110, 97, 109, 101]
def sChecked : List UInt8 := [99, 104, 101, 99, 107, 101, 100]
def ord (K : Nat → List Nat) (d : Nat → Nat) : List Nat := wlk K (128 - d 0) 0
structure DcOk (S : Tr) (K : Nat → List Nat) (d : Nat → Nat) : Prop where
  ok : TrOk 1 S K d
  fr : S.free = []
  len : S.slots.length ≤ 100
  att : ∀ x, (S.at x).isSome = true → x ≠ 0 → ∃ p, x ∈ K p
section
variable {S : Tr} {K : Nat → List Nat} {d : Nat → Nat}
theorem DcOk.lk (D : DcOk S K d) : Lk S K d := D.ok.lk
theorem DcOk.live0 (D : DcOk S K d) : (S.at 0).isSome = true := by obtain ⟨n, h, _⟩ := D.ok.doc; rw [h]; rfl
theorem DcOk.d0 (D : DcOk S K d) : d 0 = 1 := D.lk.one 0 D.live0 D.ok.nodoc
theorem DcOk.al (D : DcOk S K d) : ∀ i n, S.at i = some n → n.attrs.length ≤ 1000 := fun i n hi => by have := (D.ok.nd i n hi).al; omega
theorem DcOk.nm (D : DcOk S K d) : ∀ i n, S.at i = some n → n.kind ≠ 2 → n.name = [] := fun i n hi hk => by
  have := D.ok.nd i n hi
  rcases this.kd with e | e | e | e
  · exact (this.dc e).1
  · exact absurd e hk
  · exact (this.tx (.inl e)).1
  · exact (this.tx (.inr e)).1
theorem DcOk.na (D : DcOk S K d) : ∀ i n, S.at i = some n → n.kind ≠ 2 → n.attrs = [] := fun i n hi hk => by
  have := D.ok.nd i n hi
  rcases this.kd with e | e | e | e
  · exact (this.dc e).2.2
  · exact absurd e hk
  · exact (this.tx (.inl e)).2.1
  · exact (this.tx (.inr e)).2.1
theorem DcOk.attL (D : DcOk S K d) {i : Nat} {n : Nd} (hi : S.at i = some n) (x : List UInt8) : Go.Proofs.YtacdbnhnhdlmpaaGreatDoor.W.attL n.attrs x = attV n x := by
  unfold attV
  by_cases hk : n.kind = 2
  · rw [if_pos hk]
  · rw [if_neg hk, D.na i n hi hk]; rfl
theorem DcOk.sub0 (D : DcOk S K d) : ∀ (m x : Nat), d x = m → (S.at x).isSome = true → subB S d 0 x = true := by
  intro m
  induction m using Nat.strongRecOn with
  | ind m ih =>
    intro x hm hx
    by_cases h0 : x = 0
    · subst h0
      unfold subB
      rw [D.d0]
      show (0 == 0 || _) = true
      simp
    · obtain ⟨q, hq⟩ := D.att x hx h0
      rw [sub_kid D.lk hq, ih (d q) (by have := D.lk.dep q x hq; omega) q rfl (D.lk.kin q x hq).1]
      simp
theorem DcOk.mem_ord (D : DcOk S K d) {x : Nat} (hx : (S.at x).isSome = true) : x ∈ ord K d := sub_wlk D.lk _ 0 x rfl hx D.live0 (D.sub0 _ x rfl hx)
theorem DcOk.ord_live (D : DcOk S K d) {x : Nat} (hx : x ∈ ord K d) : (S.at x).isSome = true := (wlk_sub D.lk _ 0 x D.live0 hx).2
theorem DcOk.ord_nd (D : DcOk S K d) : (ord K d).Nodup := wlk_nodup D.lk _ 0 D.live0
theorem DcOk.ord_len (D : DcOk S K d) : (ord K d).length ≤ 100 := Nat.le_trans (wlk_len D.lk _ 0 D.live0) D.len
theorem DcOk.hd_inj (D : DcOk S K d) {i j : Nat} (hi : (S.at i).isSome = true) (hj : (S.at j).isSome = true) (h : S.hd i = S.hd j) : i = j := by
  obtain ⟨a, ha⟩ := Option.isSome_iff_exists.1 hi
  obtain ⟨b, hb⟩ := Option.isSome_iff_exists.1 hj
  have h1 := hd_ix D.lk ha
  rw [h, hd_ix D.lk hb] at h1
  exact (Option.some.inj h1).symm
end
def fat : Value → Nat → Option Addr
  | .slice (some a) _ _, i => some ⟨a.block, i * 9, none⟩
  | _, _ => none
def fatO (fa : Value) (o : Option Nat) : Option Addr := o.bind (fat fa)
theorem st_shape {B : Nat} {w0 w : World} {Q : Nat} {fa : Value} {foc : Int} {X : List FX} {l : List Ob} (h : All B w0 (fsL Q fa foc X ++ l) w) : (X = [] ∧ fa = .slice none 0 0) ∨ ∃ g cap, fa = .slice (some ⟨g, 0, none⟩) X.length cap ∧ X.length ≤ cap := by
  have hs : Own w 119 9 fa X.length (rows fxC X) := h.P (sl 119 9 fa X.length (rows fxC X)) (by simp [fsL])
  rcases hs.2 with ⟨rfl, hn⟩ | ⟨g, cap, cur, rfl, _, _, hc, _⟩
  · exact .inl ⟨List.eq_nil_of_length_eq_zero hn, rfl⟩
  · exact .inr ⟨g, cap, rfl, hc⟩
theorem st_cell {B : Nat} {w0 w : World} {Q g n cap : Nat} {foc : Int} {X : List FX} {l : List Ob} (h : All B w0 (fsL Q (.slice (some ⟨g, 0, none⟩) n cap) foc X ++ l) w) {i : Nat} {x : FX} (hi : X[i]? = some x) {j : Nat} (hj : j < 9) : w.cell? ⟨g, i * 9 + j, none⟩ = (fxC x)[j]? ∧ w.frozen? ⟨g, i * 9 + j, none⟩ = false := by
  have hs : Own w 119 9 (.slice (some ⟨g, 0, none⟩) n cap) X.length (rows fxC X) := h.P (sl 119 9 (.slice (some ⟨g, 0, none⟩) n cap) X.length (rows fxC X)) (by simp [fsL])
  have hlt := (List.getElem?_eq_some_iff.1 hi).1
  obtain rfl : n = X.length := by
    rcases hs.2 with ⟨e, _⟩ | ⟨g', cap', cur, e, _⟩
    · cases e
    · cases e; rfl
  refine ⟨?_, hs.frozenAt _⟩
  rw [hs.cellAt (i * 9 + j) (by omega), rows_at (enc := fxC) fxC_len X i x hi j hj]
theorem st_blk {B : Nat} {w0 w : World} {Q : Nat} {fa : Value} {foc : Int} {X : List FX} {l : List Ob} (h : All B w0 (fsL Q fa foc X ++ l) w) : Blk w Q [fa, .int .i64 foc] 30 := h.P (bk Q [fa, .int .i64 foc] 30) (by simp [fsL])
set_option maxRecDepth 100000 in
theorem find_any {B : Nat} {w0 w : World} {Q : Nat} {fa : Value} {foc : Int} {X : List FX} {l : List Ob} (h : All B w0 (fsL Q fa foc X ++ l) w) (hd : Int) (hl : X.length ≤ 1000000) :
    Calls Tryz.prog 58 #[.pointer (some ⟨Q, 0, none⟩), .int .i64 hd] w fun e w' => e = .returned (.pointer (fatO fa (fixX X hd))) ∧ w = w' := by
  have c1 := (st_blk h).cell 0
  simp only [List.getElem?_cons_zero] at c1
  rcases st_shape h with ⟨rfl, rfl⟩ | ⟨g, cap, rfl, hcap⟩
  · clear h
    have hf : fatO (.slice none 0 0) (fixX [] hd) = none := rfl
    rw [hf]
    go_enter Tryz.func58, Tryz.ntmps58
    go_wp2_with fail
    go_loop [11] (fun iv => iv = .int .i64 0) (fun iv => 0)
    case atStart => exact rfl
    case round =>
      obtain rfl := hrel
      go_wp2_with fail
      go_ret
      exact ⟨rfl, rfl⟩
  · have hcell : ∀ k y, X[k]? = some y → w.cell? ⟨g, k * 9, none⟩ = some (.int .i64 y.node) := fun k y hy => (st_cell h hy (j := 0) (by omega)).1
    have HC := Lib.hid hcell
    obtain ⟨n, hnn⟩ : ∃ n, X.length = n := ⟨_, rfl⟩
    rw [hnn] at c1 hl
    have HNN := Lib.hid hnn
    have HE : ∀ k y, X[k]? = some y → (y.node ≠ hd ∧ ∀ i, fixX X hd = some i → i ≠ k) ∨ (y.node = hd ∧ ((∀ j z, j < k → X[j]? = some z → z.node ≠ hd) → fixX X hd = some k)) := fun k y hy => by
      by_cases e : y.node = hd
      · exact .inr ⟨e, fun hj => fix_of hy e hj⟩
      · refine .inl ⟨e, fun i hi hk => ?_⟩
        subst hk
        obtain ⟨_, h1, h2, _⟩ := fix_some hi
        rw [hy] at h1
        rw [← Option.some.inj h1] at h2
        exact e h2
    have HEE := Lib.hid HE
    clear h hcell hnn HE hcap
    go_enter Tryz.func58, Tryz.ntmps58
    go_wp2_with fail
    go_loop [11] (fun iv => ∃ k : Nat, k ≤ n ∧ iv = .int .i64 (k : Int) ∧ ∀ j z, j < k → X[j]? = some z → z.node ≠ hd) (fun iv => n - (intOf iv).toNat)
    case atStart => exact ⟨0, Nat.zero_le _, rfl, fun j z hj => by omega⟩
    case round =>
      obtain ⟨k, hk, rfl, hbef⟩ := hrel
      by_cases hkl : k < n
      · obtain ⟨y, hy⟩ : ∃ y, X[k]? = some y := ⟨_, List.getElem?_eq_getElem (by rw [HNN.out]; exact hkl)⟩
        have q0 := HC.out k _ hy
        rcases HEE.out k y hy with ⟨e, _⟩ | ⟨e, hf⟩
        · have HB := Lib.hid hbef
          have HY := Lib.hid hy
          have HN := Lib.hid e
          have e1 : (y.node == hd) = false := by simpa using e
          clear hy hbef e
          generalize hyn : y.node = yn at *
          go_wp2_with fail
          go_round
          case rel =>
            refine ⟨k + 1, by omega, by go_num, fun j z hj hz => ?_⟩
            by_cases hjk : j = k
            · subst hjk
              rw [HY.out] at hz; cases hz
              rw [hyn]; exact HN.out
            · exact HB.out j z (by omega) hz
          case measure => simp [intOf]; omega
        · have HF := Lib.hid (hf hbef)
          rw [e] at q0
          clear hy hbef hf e
          go_wp2_with fail
          go_ret
          refine ⟨?_, rfl⟩
          rw [HF.out]
          rfl
      · obtain rfl : k = n := by omega
        have hf : fixX X hd = none := by
          cases e : fixX X hd with
          | none => rfl
          | some i =>
            obtain ⟨h1, h2, h3, _⟩ := fix_some e
            exact absurd h3 (hbef i _ (by rw [HNN.out] at h1; exact h1) h2)
        have HF := Lib.hid hf
        clear hf hbef
        go_wp2_with fail
        go_ret
        refine ⟨?_, rfl⟩
        rw [HF.out]
        rfl
theorem frX_one (hd : Int) : ∀ u ∈ fxC (frX hd), u.oneCell' = true := by
  intro u hu
  simp only [fxC, frX, List.mem_cons, List.not_mem_nil, or_false] at hu
  rcases hu with rfl | rfl | rfl | rfl | rfl | rfl | rfl | rfl | rfl <;> rfl
theorem fs_set {B : Nat} {w0 w : World} {Q g n cap : Nat} {foc : Int} {X : List FX} {l : List Ob} (h : All B w0 (fsL Q (.slice (some ⟨g, 0, none⟩) n cap) foc X ++ l) w) (hn : n = X.length) {i : Nat} {x : FX} (hi : X[i]? = some x) (x' : FX) (j : Nat) (u : Value) (hj : j < 9) (hx : fxC x' = (fxC x).set j u) : All B w0 (fsL Q (.slice (some ⟨g, 0, none⟩) n cap) foc (X.set i x') ++ l) (w.setCell ⟨g, i * 9 + j, none⟩ u) := by
  subst hn
  have hr := rows_field (enc := fxC) fxC_len X i j x x' u hi hj hx
  have h1 := All.setSl [bk Q [.slice (some ⟨g, 0, none⟩) X.length cap, .int .i64 foc] 30] (l2 := l) h (i * 9 + j) u
  rw [← hr] at h1
  simpa [fsL] using h1
set_option maxRecDepth 100000 in
set_option maxHeartbeats 4000000 in
theorem field_any {B : Nat} {w0 w : World} {Q : Nat} {fa : Value} {foc : Int} {X : List FX} {l : List Ob} (h : All B w0 (fsL Q fa foc X ++ l) w) (hd : Int) (hl : X.length ≤ 100000) :
    Calls Tryz.prog 121 #[.pointer (some ⟨Q, 0, none⟩), .int .i64 hd] w fun e w' => ∃ g cap, e = .returned (.pointer (some ⟨g, idxX X hd * 9, none⟩)) ∧
      All B w0 (fsL Q (.slice (some ⟨g, 0, none⟩) (upX X hd (getX X hd)).length cap) foc (upX X hd (getX X hd)) ++ l) w' := by
  have HF := Lib.hid (find_any h hd (by omega))
  cases hf : fixX X hd with
  | some i =>
    rw [hf] at HF
    have hi := fix_some hf
    rcases st_shape h with ⟨rfl, rfl⟩ | ⟨g, cap, rfl, hcap⟩
    · exact absurd hi.1 (by simp)
    · have H := Lib.hid h
      have e1 : fatO (.slice (some ⟨g, 0, none⟩) X.length cap) (some i) = some ⟨g, i * 9, none⟩ := rfl
      rw [e1] at HF
      have HX := Lib.hid (up_self hf)
      have HI := Lib.hid (show idxX X hd = i by unfold idxX; rw [hf]; rfl)
      clear h hf hi
      go_enter Tryz.func121, Tryz.ntmps121
      go_wp2_with fail
      refine HF.out.mono ?_
      rintro e w1 ⟨rfl, rfl⟩
      go_wp2_with fail
      go_ret
      rw [HX.out, HI.out]
      exact ⟨g, cap, rfl, H.out⟩
  | none =>
    rw [hf] at HF
    have e1 : fatO fa none = none := rfl
    rw [e1] at HF
    have hg := (fix_none hf).2
    have HX := Lib.hid (show upX X hd (getX X hd) = X ++ [frX hd] by unfold upX; rw [hf, hg])
    have HI := Lib.hid (show idxX X hd = X.length by unfold idxX; rw [hf]; rfl)
    have ho : Own w 119 9 fa X.length (rows fxC X) := h.P (sl 119 9 fa X.length (rows fxC X)) (by simp [fsL])
    obtain ⟨aa, ac, rfl⟩ := own_shape ho
    have c1 := (st_blk h).cell 0
    have cf := (st_blk h).free 0
    simp only [List.getElem?_cons_zero] at c1
    have hlt := (st_blk h).lt
    have H := Lib.hid (h.alloc (.cells #[.int .i64 hd, .bool false, .string ⟨#[]⟩, .bool false, .bool false, .int .i64 0, .int .i64 0, .slice none 0 0, .slice none 0 0] 119))
    have hne : w.heap.size ≠ Q := by omega
    clear h hf hg ho
    go_enter Tryz.func121, Tryz.ntmps121
    go_wp2_with fail
    refine HF.out.mono ?_
    rintro e w1 ⟨rfl, rfl⟩
    go_wp2_with (at_builtin; refine wpList_append_all etF [_] H.out (own_at (n := 1) (size := 9) (Blk.new w (fxC (frX hd)) 119) rfl (by omega)) (frX_one hd) (by omega) (by omega) rfl _ _ rfl rfl rfl ?_; intro v' w3 hA3; have hQ3 : Blk w3 Q [.slice aa X.length ac, .int .i64 foc] 30 := hA3.head; have ho3 : Own _ _ _ _ _ _ := hA3.tail.head; obtain ⟨va, vc, rfl, _⟩ := own_some ho3 (by omega); have c3 := hQ3.cell 0; have f3 := hQ3.free 0; simp only [List.getElem?_cons_zero] at c3; have HB := Lib.hid (All.setBk [] hA3 0 (.slice (some ⟨va, 0, none⟩) (X.length + 1) vc)); clear hA3 ho3 hQ3)
    have hB := HB.out
    have k0 : w3.cell? ⟨Q, 0, none⟩ = some (.slice aa X.length ac) := c3
    go_upto_region 5 with fail
    go_quiet (fail)
    all_goals (go_wp2_with fail)
    all_goals go_ret
    all_goals (
      rw [HX.out, HI.out]
      refine ⟨va, vc, rfl, ?_⟩
      have := HB.out
      rw [← show rows fxC (X ++ [frX hd]) = rows fxC X ++ fxC (frX hd) from rows_snoc _ _] at this
      first | simpa [fsL] using this.drewN _ | simpa [fsL] using this)
structure FdOk (B : Nat) (w0 : World) (R : Nat) (O : Ob) (hd : Int) (k : Nat) (v : List UInt8) : Prop where
  kind : ∀ w, O.P w → Below B w0 w → Calls Tryz.prog 31 #[.pointer (some ⟨R, 0, none⟩), .int .i64 hd] w fun e w' => e = .returned (.int .i64 (k : Int)) ∧ Below w.heap.size w w'
  std : ∀ w, O.P w → Below B w0 w → Calls Tryz.prog 60 #[.pointer (some ⟨R, 0, none⟩), .int .i64 hd] w fun e w' => e = .returned (.string ⟨v.toArray⟩) ∧ Below w.heap.size w w'
section
variable {B : Nat} {w0 w : World} {Q R : Nat} {fa : Value} {foc hd : Int} {X : List FX} {l : List Ob} {O : Ob} {k : Nat} {v : List UInt8}
theorem FdOk.kindA (hF : FdOk B w0 R O hd k v) {l : List Ob} (hO : O ∈ l) {w : World} (h : All B w0 l w) : Calls Tryz.prog 31 #[.pointer (some ⟨R, 0, none⟩), .int .i64 hd] w fun e w' => e = .returned (.int .i64 (k : Int)) ∧ Below w.heap.size w w' := hF.kind w (h.P O hO) h.below
theorem FdOk.stdA (hF : FdOk B w0 R O hd k v) {l : List Ob} (hO : O ∈ l) {w : World} (h : All B w0 l w) : Calls Tryz.prog 60 #[.pointer (some ⟨R, 0, none⟩), .int .i64 hd] w fun e w' => e = .returned (.string ⟨v.toArray⟩) ∧ Below w.heap.size w w' := hF.std w (h.P O hO) h.below
theorem written_any (k : Nat) (w : World) : Calls Tryz.prog 59 #[.int .i64 (k : Int)] w fun e w' => e = .returned (.bool (decide (k = 1 ∨ k = 2))) ∧ w' = w := by
  by_cases h1 : k = 1
  · subst h1
    go_enter Tryz.func59, Tryz.ntmps59
    go_wp2_with fail
    go_ret
    exact ⟨rfl, rfl⟩
  · by_cases h2 : k = 2
    · subst h2
      go_enter Tryz.func59, Tryz.ntmps59
      go_wp2_with fail
      go_ret
      exact ⟨rfl, rfl⟩
    · have e1 : ((k : Int) == 1) = false := by simp; omega
      have e2 : ((k : Int) == 2) = false := by simp; omega
      have e3 : decide (k = 1 ∨ k = 2) = false := by simp; omega
      rw [e3]
      go_enter Tryz.func59, Tryz.ntmps59
      go_wp2_with fail
      go_ret
      exact ⟨rfl, rfl⟩
theorem written_yes {k : Nat} (hk : k = 1 ∨ k = 2) (w : World) : Calls Tryz.prog 59 #[.int .i64 (k : Int)] w fun e w' => e = .returned (.bool true) ∧ w' = w := by
  have := written_any k w
  rwa [decide_eq_true hk] at this
def valX (X : List FX) (hd : Int) (v : List UInt8) : List UInt8 := if (getX X hd).dirty then (getX X hd).t.val else v
theorem valX_ft (X : List FX) (hd : Int) (v : List UInt8) : valX X hd v = (ftX X hd v).val := by unfold valX ftX; split <;> rfl
theorem get_cell (h : All B w0 (fsL Q fa foc X ++ l) w) {i : Nat} (hi : fixX X hd = some i) : ∃ g cap, fa = .slice (some ⟨g, 0, none⟩) X.length cap ∧ fatO fa (fixX X hd) = some ⟨g, i * 9, none⟩ ∧ ∀ j, j < 9 → w.cell? ⟨g, i * 9 + j, none⟩ = (fxC (getX X hd))[j]? ∧ w.frozen? ⟨g, i * 9 + j, none⟩ = false := by
  obtain ⟨h1, h2, _⟩ := fix_some hi
  rcases st_shape h with ⟨rfl, rfl⟩ | ⟨g, cap, rfl, hcap⟩
  · simp at h1
  · exact ⟨g, cap, rfl, by rw [hi]; rfl, fun j hj => st_cell h h2 hj⟩
set_option maxRecDepth 100000 in
set_option maxHeartbeats 4000000 in
theorem value_any (h : All B w0 (fsL Q fa foc X ++ l) w) (hO : O ∈ fsL Q fa foc X ++ l) (hF : FdOk B w0 R O hd k v) (hk : k ≠ 0) (hkd : (getX X hd).dirty = true → k = 1 ∨ k = 2) (hl : X.length ≤ 100000) :
    Calls Tryz.prog 15 #[.pointer (some ⟨Q, 0, none⟩), .pointer (some ⟨R, 0, none⟩), .int .i64 hd] w fun e w' => e = .returned (.tuple #[.string ⟨(valX X hd v).toArray⟩, .int .i64 0]) ∧ Below w.heap.size w w' := by
  have HK := Lib.hid (hF.kindA hO h)
  have HS := Lib.hid (fun wx (hb : Below w.heap.size w wx) => hF.stdA hO (h.still hb))
  have HFd := Lib.hid (fun wx (hb : Below w.heap.size w wx) => find_any (h.still hb) hd (by omega))
  have e0 : ((k : Int) == 0) = false := by simp; omega
  cases hf : fixX X hd with
  | none =>
    have hv : valX X hd v = v := by unfold valX; rw [(fix_none hf).2]; rfl
    rw [hf] at HFd
    rw [hv]
    have e1 : fatO fa none = none := rfl
    rw [e1] at HFd
    clear h hkd hF hO hf hv
    go_enter Tryz.func15, Tryz.ntmps15
    go_wp2_with fail
    refine HK.out.mono ?_
    rintro e w1 ⟨rfl, hb1⟩
    go_wp2_with fail
    refine (HFd.out _ hb1).mono ?_
    rintro e w2 ⟨rfl, hw⟩
    subst hw
    go_wp2_with fail
    refine (HS.out _ hb1).mono ?_
    rintro e w3 ⟨rfl, hb3⟩
    go_wp2_with fail
    go_ret2
    exact ⟨rfl, bthen hb1 hb3⟩
  | some i =>
    have HC := Lib.hid (fun wx (hb : Below w.heap.size w wx) => get_cell (h.still hb) hf)
    obtain ⟨g, cap, rfl, he, _⟩ := get_cell h hf
    rw [he] at HFd
    have HC := Lib.hid (fun wx (hb : Below w.heap.size w wx) j (hj : j < 9) => st_cell (h.still hb) (fix_some hf).2.1 hj)
    unfold valX
    generalize getX X hd = x at *
    clear h hF hO hf he
    cases hx : x.dirty with
    | false =>
      clear hkd
      go_enter Tryz.func15, Tryz.ntmps15
      go_wp2_with fail
      refine HK.out.mono ?_
      rintro e w1 ⟨rfl, hb1⟩
      go_wp2_with fail
      refine (HFd.out _ hb1).mono ?_
      rintro e w2 ⟨rfl, hw⟩
      subst hw
      have c1 := (HC.out _ hb1 1 (by omega)).1
      rw [show (fxC x)[1]? = some (.bool x.dirty) from rfl, hx] at c1
      clear hx
      go_wp2_with fail
      refine (HS.out _ hb1).mono ?_
      rintro e w3 ⟨rfl, hb3⟩
      go_wp2_with fail
      go_ret2
      exact ⟨rfl, bthen hb1 hb3⟩
    | true =>
      have HW := Lib.hid (written_yes (hkd hx))
      clear hkd
      go_enter Tryz.func15, Tryz.ntmps15
      go_wp2_with fail
      refine HK.out.mono ?_
      rintro e w1 ⟨rfl, hb1⟩
      go_wp2_with fail
      refine (HFd.out _ hb1).mono ?_
      rintro e w2 ⟨rfl, hw⟩
      subst hw
      have c1 := (HC.out _ hb1 1 (by omega)).1
      have c2 := (HC.out _ hb1 2 (by omega)).1
      rw [show (fxC x)[1]? = some (.bool x.dirty) from rfl, hx] at c1
      rw [show (fxC x)[2]? = some (strV x.t.val) from rfl] at c2
      simp only [strV] at c2
      clear hx
      go_wp2_with fail
      refine (HW.out _).mono ?_
      rintro e w3 ⟨rfl, hw⟩
      subst hw
      go_wp2_with fail
      go_ret2
      exact ⟨rfl, hb1⟩
end
end Go.Proofs.YtacdbnhnhdlmpaaGreatDoor.W
end
