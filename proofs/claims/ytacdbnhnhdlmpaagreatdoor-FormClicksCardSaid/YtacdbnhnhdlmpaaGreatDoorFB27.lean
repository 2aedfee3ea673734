/- Texts joined: Fse Fon Mkl RegY Cln Fsn StC Mks. -/
import Derived.Test.YtacdbnhnhdlmpaaGreatDoorFB25
import Derived.OwnWalk
import Derived.Test.YtacdbnhnhdlmpaaGreatDoorFB26
import Derived.Test.YtacdbnhnhdlmpaaGreatDoorFB19
import Derived.Test.YtacdbnhnhdlmpaaGreatDoorFB12
import Derived.Test.YtacdbnhnhdlmpaaGreatDoorFB14
import Derived.LoopTactic
import Derived.Deep.CutBlock
import Derived.Test.YtacdbnhnhdlmpaaGreatDoorFB20
set_option maxRecDepth 100000
set_option maxHeartbeats 40000000
set_option linter.unusedVariables false
set_option linter.unusedSimpArgs false
section
namespace Go.Proofs.YtacdbnhnhdlmpaaGreatDoor.W
open Go.RowKit
section
variable {B : Nat} {w0 w : World} {Q R : Nat} {fa : Value} {foc hd : Int} {X : List FX} {l : List Ob} {O : Ob} {k : Nat} {v : List UInt8}
theorem len_n (l : List UInt8) (w : World) (hs : l.length ≤ 10000000) : Calls Tryz.prog 61 #[.string ⟨l.toArray⟩] w fun e w' => e = .returned (.int .i64 (nL l : Int)) ∧ Below w.heap.size w w' := by
  have := len_text l w (by omega)
  rw [runeCount_is] at this
  exact this
def dirtX (x : FX) (v : List UInt8) : FX := if x.dirty then x else { x with dirty := true, t := { x.t with val := v, st := nL v, en := nL v } }
theorem dirtX_node (x : FX) (v : List UInt8) : (dirtX x v).node = x.node ∧ (dirtX x v).dirty = true := by
  unfold dirtX
  split
  · exact ⟨rfl, by assumption⟩
  · exact ⟨rfl, rfl⟩
theorem dirtX_uv (x : FX) (v : List UInt8) : (dirtX x v).uv = x.uv ∧ (dirtX x v).rv = x.rv := by unfold dirtX; split <;> exact ⟨rfl, rfl⟩
theorem dirtX_t {X : List FX} {hd : Int} {v : List UInt8} (h : FInv X hd v) : (dirtX (getX X hd) v).t = ftX X hd v := by
  unfold dirtX ftX
  split
  · rfl
  · rename_i e
    obtain ⟨h1, h2⟩ := h.new (by simpa using e)
    simp only [FT.of, h1, h2]
set_option maxRecDepth 100000 in
set_option maxHeartbeats 4000000 in
theorem selection_any (h : All B w0 (fsL Q fa foc X ++ l) w) (hO : O ∈ fsL Q fa foc X ++ l) (hF : FdOk B w0 R O hd k v) (hk : k = 1 ∨ k = 2) (hl : X.length ≤ 100000) (hst : (ftX X hd v).st ≤ nL (ftX X hd v).val) (hen : (ftX X hd v).en ≤ nL (ftX X hd v).val) (hln : (ftX X hd v).val.length ≤ 10000000) :
    Calls Tryz.prog 16 #[.pointer (some ⟨Q, 0, none⟩), .pointer (some ⟨R, 0, none⟩), .int .i64 hd] w fun e w' => e = .returned (.tuple #[.int .i64 ((ftX X hd v).st : Int), .int .i64 ((ftX X hd v).en : Int), .int .i64 0]) ∧ Below w.heap.size w w' := by
  have HK := Lib.hid (hF.kindA hO h)
  have HW := Lib.hid (written_yes hk)
  have HV := Lib.hid (fun wx (hb : Below w.heap.size w wx) => value_any (h.still hb) hO hF (by omega) (fun _ => hk) hl)
  have HFd := Lib.hid (fun wx (hb : Below w.heap.size w wx) => find_any (h.still hb) hd (by omega))
  rw [valX_ft] at HV
  have HL := Lib.hid (fun wx => len_n (ftX X hd v).val wx hln)
  have hnl := nL_le (ftX X hd v).val
  cases hf : fixX X hd with
  | none =>
    have hft : ftX X hd v = FT.of v := by unfold ftX; rw [(fix_none hf).2]; rfl
    rw [hf] at HFd
    have e1 : fatO fa none = none := rfl
    rw [e1] at HFd
    rw [hft] at HV HL hst hen hln hnl ⊢
    simp only [FT.of] at *
    clear h hF hO hf hft
    generalize nL v = n at *
    go_enter Tryz.func16, Tryz.ntmps16
    go_wp2_with fail
    refine HK.out.mono ?_
    rintro e w1 ⟨rfl, hb1⟩
    go_wp2_with fail
    refine (HW.out _).mono ?_
    rintro e w2 ⟨rfl, hw⟩
    subst hw
    go_wp2_with fail
    refine (HV.out _ hb1).mono ?_
    rintro e w3 ⟨rfl, hb3⟩
    have hb3' := bthen hb1 hb3
    go_wp2_with fail
    refine (HL.out _).mono ?_
    rintro e w4 ⟨rfl, hb4⟩
    have hb4' := bthen hb3' hb4
    go_wp2_with fail
    refine (HFd.out _ hb4').mono ?_
    rintro e w5 ⟨rfl, hw⟩
    subst hw
    go_wp2_with fail
    go_ret3
    exact ⟨rfl, hb4'⟩
  | some i =>
    obtain ⟨g, cap, rfl, he, _⟩ := get_cell h hf
    rw [he] at HFd
    have HC := Lib.hid (fun wx (hb : Below w.heap.size w wx) j (hj : j < 9) => st_cell (h.still hb) (fix_some hf).2.1 hj)
    clear h hF hO hf he
    cases hx : (getX X hd).dirty with
    | false =>
      have hft : ftX X hd v = FT.of v := by unfold ftX; rw [hx]; rfl
      rw [hft] at HV HL hst hen hln hnl ⊢
      simp only [FT.of] at *
      generalize nL v = n at *
      go_enter Tryz.func16, Tryz.ntmps16
      go_wp2_with fail
      refine HK.out.mono ?_
      rintro e w1 ⟨rfl, hb1⟩
      go_wp2_with fail
      refine (HW.out _).mono ?_
      rintro e w2 ⟨rfl, hw⟩
      subst hw
      go_wp2_with fail
      refine (HV.out _ hb1).mono ?_
      rintro e w3 ⟨rfl, hb3⟩
      have hb3' := bthen hb1 hb3
      go_wp2_with fail
      refine (HL.out _).mono ?_
      rintro e w4 ⟨rfl, hb4⟩
      have hb4' := bthen hb3' hb4
      go_wp2_with fail
      refine (HFd.out _ hb4').mono ?_
      rintro e w5 ⟨rfl, hw⟩
      subst hw
      have c1 := (HC.out _ hb4' 1 (by omega)).1
      rw [show (fxC (getX X hd))[1]? = some (.bool (getX X hd).dirty) from rfl, hx] at c1
      clear hx
      go_wp2_with fail
      go_ret3
      exact ⟨rfl, hb4'⟩
    | true =>
      have hft : ftX X hd v = (getX X hd).t := by unfold ftX; rw [hx]; rfl
      rw [hft] at HV HL hst hen hln hnl ⊢
      clear hft
      generalize getX X hd = x at *
      generalize nL x.t.val = n at *
      have m1 : min (x.t.st : Int) (n : Int) = x.t.st := by omega
      have m2 : min (x.t.en : Int) (n : Int) = x.t.en := by omega
      go_enter Tryz.func16, Tryz.ntmps16
      go_wp2_with fail
      refine HK.out.mono ?_
      rintro e w1 ⟨rfl, hb1⟩
      go_wp2_with fail
      refine (HW.out _).mono ?_
      rintro e w2 ⟨rfl, hw⟩
      subst hw
      go_wp2_with fail
      refine (HV.out _ hb1).mono ?_
      rintro e w3 ⟨rfl, hb3⟩
      have hb3' := bthen hb1 hb3
      go_wp2_with fail
      refine (HL.out _).mono ?_
      rintro e w4 ⟨rfl, hb4⟩
      have hb4' := bthen hb3' hb4
      go_wp2_with fail
      refine (HFd.out _ hb4').mono ?_
      rintro e w5 ⟨rfl, hw⟩
      subst hw
      have c1 := (HC.out _ hb4' 1 (by omega)).1
      have c5 := (HC.out _ hb4' 5 (by omega)).1
      have c6 := (HC.out _ hb4' 6 (by omega)).1
      rw [show (fxC x)[1]? = some (.bool x.dirty) from rfl, hx] at c1
      rw [show (fxC x)[5]? = some (.int .i64 (x.t.st : Int)) from rfl] at c5
      rw [show (fxC x)[6]? = some (.int .i64 (x.t.en : Int)) from rfl] at c6
      clear hx
      go_upto_region 7 with fail
      go_quiet (fail)
      all_goals (go_wp2_with fail)
      all_goals go_ret3
      all_goals (
        refine ⟨?_, by first | exact hb4' | exact Below.drewN hb4' _⟩
        simp [m1, m2])
set_option maxRecDepth 100000 in
set_option maxHeartbeats 4000000 in
theorem dirty_any (h : All B w0 (fsL Q fa foc X ++ l) w) (hO : O ∈ l) (hF : FdOk B w0 R O hd k v) (hl : X.length ≤ 100000) (hv : v.length ≤ 10000000) :
    Calls Tryz.prog 65 #[.pointer (some ⟨Q, 0, none⟩), .pointer (some ⟨R, 0, none⟩), .int .i64 hd] w fun e w' => ∃ g cap, e = .returned (.pointer (some ⟨g, idxX X hd * 9, none⟩)) ∧
      All B w0 (fsL Q (.slice (some ⟨g, 0, none⟩) (upX X hd (dirtX (getX X hd) v)).length cap) foc (upX X hd (dirtX (getX X hd) v)) ++ l) w' := by
  have HFi := Lib.hid (field_any h hd hl)
  have HS := Lib.hid (fun X' fa' wx (hA : All B w0 (fsL Q fa' foc X' ++ l) wx) => hF.stdA (List.mem_append_right _ hO) hA)
  have HL := Lib.hid (fun wx => len_n v wx hv)
  clear h
  have hi := up_at X hd (getX X hd)
  have hset : ∀ y, (upX X hd (getX X hd)).set (idxX X hd) y = upX X hd y := fun y => up_set X hd _ y
  have hlen : ∀ y, (upX X hd y).length = (upX X hd (getX X hd)).length := fun y => by rw [← hset y, List.length_set]
  generalize getX X hd = x at *
  go_enter Tryz.func65, Tryz.ntmps65
  go_wp2_with fail
  refine HFi.out.mono ?_
  rintro e w1 ⟨g, cap, rfl, hA⟩
  obtain ⟨c1, f1⟩ := st_cell hA hi (j := 1) (by omega)
  rw [show (fxC x)[1]? = some (.bool x.dirty) from rfl] at c1
  cases hx : x.dirty with
  | true =>
    rw [hx] at c1
    have HA := Lib.hid hA
    have HD := Lib.hid (show dirtX x v = x by unfold dirtX; rw [hx]; rfl)
    clear hA hi hset hlen hx f1
    go_wp2_with fail
    go_ret
    rw [HD.out]
    exact ⟨g, cap, rfl, HA.out⟩
  | false =>
    rw [hx] at c1
    have HD := Lib.hid (show dirtX x v = { x with dirty := true, t := { x.t with val := v, st := nL v, en := nL v } } by unfold dirtX; rw [hx]; rfl)
    have hA2 := fs_set hA rfl hi { x with dirty := true } 1 (.bool true) (by omega) (by rfl)
    rw [hset] at hA2
    have HA2 := Lib.hid hA2
    have HN := Lib.hid hlen
    have hat : ∀ y, (upX X hd y)[idxX X hd]? = some y := fun y => up_at X hd y
    have HAt := Lib.hid hat
    have HSet := Lib.hid (fun y z => up_set X hd y z)
    generalize (upX X hd x).length = n at *
    generalize hii : idxX X hd = i at *
    have HI := Lib.hid hii
    clear hA hA2 hset hlen hx hat hi hii
    go_wp2_with fail
    refine (HS.out _ _ _ HA2.out).mono ?_
    rintro e w3 ⟨rfl, hb3⟩
    have hA3 := HA2.out.still hb3
    obtain ⟨c2, f2⟩ := st_cell hA3 (HAt.out _) (j := 2) (by omega)
    have hA4 := fs_set hA3 (HN.out _).symm (HAt.out _) { x with dirty := true, t := { x.t with val := v } } 2 (.string ⟨v.toArray⟩) (by omega) (by rfl)
    rw [HSet.out] at hA4
    have HA4 := Lib.hid hA4
    clear hA3 hb3 hA4 c1 f1
    go_wp2_with fail
    refine (HL.out _).mono ?_
    rintro e w5 ⟨rfl, hb5⟩
    have hA5 := HA4.out.still hb5
    obtain ⟨c5, f5⟩ := st_cell hA5 (HAt.out _) (j := 5) (by omega)
    obtain ⟨c6, f6⟩ := st_cell hA5 (HAt.out _) (j := 6) (by omega)
    have hA6 := fs_set hA5 (HN.out _).symm (HAt.out _) { x with dirty := true, t := { x.t with val := v, st := nL v } } 5 (.int .i64 (nL v : Int)) (by omega) (by rfl)
    rw [HSet.out] at hA6
    have hA7 := fs_set hA6 (HN.out _).symm (HAt.out _) { x with dirty := true, t := { x.t with val := v, st := nL v, en := nL v } } 6 (.int .i64 (nL v : Int)) (by omega) (by rfl)
    rw [HSet.out] at hA7
    have HA7 := Lib.hid hA7
    clear hA5 hb5 hA6 hA7 c2 f2
    go_wp2_with fail
    go_ret
    rw [HD.out]
    rw [HI.out]
    refine ⟨g, cap, rfl, ?_⟩
    rw [HN.out]
    exact HA7.out
end
def edO (u r : Value) (F : FT) : List Ob := [ro 126 5 u F.undo.length (rows encE F.undo), ro 126 5 r F.redo.length (rows encE F.redo)]
def oneL (Q g cap : Nat) (foc : Int) (y : FX) : List Ob := [bk Q [.slice (some ⟨g, 0, none⟩) 1 cap, .int .i64 foc] 30, sl 119 9 (.slice (some ⟨g, 0, none⟩) 1 cap) 1 (fxC y)]
def FsAt (B : Nat) (w0 : World) (Q : Nat) (foc hd : Int) (v : List UInt8) (l : List Ob) (F : FT) (w : World) : Prop :=
  ∃ fa X u r, FInv X hd v ∧ ftX X hd v = F ∧ (getX X hd).uv = u ∧ (getX X hd).rv = r ∧ All B w0 (fsL Q fa foc X ++ (edO u r F ++ l)) w
section
variable {B : Nat} {w0 w : World} {Q R : Nat} {foc hd : Int} {l : List Ob} {O : Ob} {k : Nat} {v : List UInt8} {F : FT}
theorem FsAt.still {w' : World} (h : FsAt B w0 Q foc hd v l F w) (hb : Below w.heap.size w w') : FsAt B w0 Q foc hd v l F w' :=
  let ⟨fa, X, u, r, h1, h2, h3, h4, h5⟩ := h; ⟨fa, X, u, r, h1, h2, h3, h4, h5.still hb⟩
theorem FsAt.rest (h : FsAt B w0 Q foc hd v l F w) : All B w0 l w := by
  obtain ⟨fa, X, u, r, h1, h2, h3, h4, h5⟩ := h
  exact h5.tail.tail.tail.tail
theorem oneL_fs (Q g cap : Nat) (foc : Int) (y : FX) : oneL Q g cap foc y = fsL Q (.slice (some ⟨g, 0, none⟩) 1 cap) foc [y] := by unfold oneL fsL; simp [rows]
theorem FsAt.of {g cap : Nat} {tc ck : Bool} {u r : Value} (h : All B w0 (oneL Q g cap foc ⟨hd, true, tc, ck, F, u, r⟩ ++ (edO u r F ++ l)) w) : FsAt B w0 Q foc hd v l F w := by
  have hf : fixX [⟨hd, true, tc, ck, F, u, r⟩] hd = some 0 := fix_of (x := ⟨hd, true, tc, ck, F, u, r⟩) rfl rfl (fun j _ hj => by omega)
  have hg : getX [⟨hd, true, tc, ck, F, u, r⟩] hd = ⟨hd, true, tc, ck, F, u, r⟩ := (Option.some.inj (fix_some hf).2.1).symm
  rw [oneL_fs] at h
  refine ⟨_, [⟨hd, true, tc, ck, F, u, r⟩], u, r, ⟨.inr ⟨_, rfl, rfl⟩, fun e => ?_⟩, ?_, ?_, ?_, h⟩
  · rw [hg] at e; cases e
  · unfold ftX; rw [hg]; rfl
  · rw [hg]
  · rw [hg]
theorem one_set {g cap : Nat} {y : FX} {l : List Ob} (h : All B w0 (oneL Q g cap foc y ++ l) w) (y' : FX) (j : Nat) (u : Value) (hy : fxC y' = (fxC y).set j u) : All B w0 (oneL Q g cap foc y' ++ l) (w.setCell ⟨g, j, none⟩ u) := by
  have h1 := All.setSl [bk Q [.slice (some ⟨g, 0, none⟩) 1 cap, .int .i64 foc] 30] (l2 := l) h j u
  rw [← hy] at h1
  exact h1
theorem one_cell {g cap : Nat} {y : FX} {l : List Ob} (h : All B w0 (oneL Q g cap foc y ++ l) w) {j : Nat} (hj : j < 9) : w.cell? ⟨g, j, none⟩ = (fxC y)[j]? ∧ w.frozen? ⟨g, j, none⟩ = false := by
  have hs : Own w 119 9 (.slice (some ⟨g, 0, none⟩) 1 cap) 1 (fxC y) := h.tail.head
  exact ⟨hs.cellAt j (by omega), hs.frozenAt _⟩
theorem value_one (h : FsAt B w0 Q foc hd v l F w) (hO : O ∈ l) (hF : FdOk B w0 R O hd k v) (hk : k = 1 ∨ k = 2) :
    Calls Tryz.prog 15 #[.pointer (some ⟨Q, 0, none⟩), .pointer (some ⟨R, 0, none⟩), .int .i64 hd] w fun e w' => e = .returned (.tuple #[.string ⟨F.val.toArray⟩, .int .i64 0]) ∧ Below w.heap.size w w' := by
  obtain ⟨fa, X, u, r, h1, h2, h3, h4, h5⟩ := h
  have := value_any h5 (List.mem_append_right _ (List.mem_append_right _ hO)) hF (by omega) (fun _ => hk) (by have := h1.one.len; omega)
  rwa [valX_ft, h2] at this
theorem selection_one (h : FsAt B w0 Q foc hd v l F w) (hO : O ∈ l) (hF : FdOk B w0 R O hd k v) (hk : k = 1 ∨ k = 2) (hst : F.st ≤ nL F.val) (hen : F.en ≤ nL F.val) (hln : F.val.length ≤ 10000000) :
    Calls Tryz.prog 16 #[.pointer (some ⟨Q, 0, none⟩), .pointer (some ⟨R, 0, none⟩), .int .i64 hd] w fun e w' => e = .returned (.tuple #[.int .i64 (F.st : Int), .int .i64 (F.en : Int), .int .i64 0]) ∧ Below w.heap.size w w' := by
  obtain ⟨fa, X, u, r, h1, h2, h3, h4, h5⟩ := h
  subst h2
  exact selection_any h5 (List.mem_append_right _ (List.mem_append_right _ hO)) hF hk (by have := h1.one.len; omega) hst hen hln
theorem dirty_one (h : FsAt B w0 Q foc hd v l F w) (hO : O ∈ l) (hF : FdOk B w0 R O hd k v) (hv : v.length ≤ 10000000) :
    Calls Tryz.prog 65 #[.pointer (some ⟨Q, 0, none⟩), .pointer (some ⟨R, 0, none⟩), .int .i64 hd] w fun e w' => ∃ g cap tc ck u r, e = .returned (.pointer (some ⟨g, 0, none⟩)) ∧
      All B w0 (oneL Q g cap foc ⟨hd, true, tc, ck, F, u, r⟩ ++ (edO u r F ++ l)) w' := by
  obtain ⟨fa, X, u, r, h1, h2, h3, h4, h5⟩ := h
  refine (dirty_any h5 (List.mem_append_right _ hO) hF (by have := h1.one.len; omega) hv).mono ?_
  rintro e w' ⟨g, cap, rfl, hA⟩
  have hn := dirtX_node (getX X hd) v
  have hu := dirtX_uv (getX X hd) v
  have ht := dirtX_t h1
  rw [get_node] at hn
  rw [h2] at ht
  rw [h3, h4] at hu
  have hi : idxX X hd = 0 := by
    rcases h1.one with rfl | ⟨x, rfl, hx⟩
    · rfl
    · unfold idxX; rw [fix_of (i := 0) (x := x) rfl hx (fun j _ hj => by omega)]; rfl
  have hX := (h1.one.up hn.1).1
  rw [hX] at hA
  generalize dirtX (getX X hd) v = y at *
  obtain ⟨yn, yd, yt, yc, yF, yu, yr⟩ := y
  simp only at hn hu ht
  obtain ⟨rfl, rfl⟩ := hn
  obtain ⟨rfl, rfl⟩ := hu
  subst ht
  rw [hi]
  refine ⟨g, cap, yt, yc, yu, yr, rfl, ?_⟩
  rw [oneL_fs]
  exact hA
end

end Go.Proofs.YtacdbnhnhdlmpaaGreatDoor.W
end
section

end
section
namespace Go.Proofs.YtacdbnhnhdlmpaaGreatDoor.W
open Go.RowKit



end Go.Proofs.YtacdbnhnhdlmpaaGreatDoor.W
end
