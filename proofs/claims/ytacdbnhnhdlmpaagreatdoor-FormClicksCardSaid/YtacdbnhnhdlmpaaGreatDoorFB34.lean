/- Texts joined: Fin SgF Ffo Fre Fun Awk. -/
import Derived.Test.YtacdbnhnhdlmpaaGreatDoorFB31
import Derived.Test.YtacdbnhnhdlmpaaGreatDoorFB33
import Derived.Test.YtacdbnhnhdlmpaaGreatDoorFB26
import Derived.Deep.RegionLaw
set_option maxRecDepth 100000
set_option maxHeartbeats 40000000
set_option linter.unusedVariables false
set_option linter.unusedSimpArgs false
section
namespace Go.Proofs.YtacdbnhnhdlmpaaGreatDoor.W
open Go.RowKit
structure FOk (N : Nat) (F : FT) : Prop where
  vd : Vd F.val
  le : F.st ≤ F.en
  in_ : F.en ≤ nL F.val
  n : F.val.length ≤ N
  few : F.undo.length + F.redo.length ≤ 100
theorem clean_len (area : Bool) (x : List UInt8) : (cleanL area x).length ≤ 4 * x.length := by
  have := fix_len x
  rw [fix_rfix] at this
  unfold cleanL
  split
  · exact this
  · exact Nat.le_trans (strip_len _) this
section
variable {B : Nat} {w0 w : World} {Q R N : Nat} {foc hd : Int} {l : List Ob} {O : Ob} {k : Nat} {v : List UInt8} {F : FT}
set_option maxRecDepth 100000 in
set_option maxHeartbeats 4000000 in
theorem insert_one (h : FsAt B w0 Q foc hd v l F w) (hO : O ∈ l) (hF : FdOk B w0 R O hd k v) (hk : k = 1 ∨ k = 2) (hv : v.length ≤ 10000000) (hL : ∀ wx, Below B w0 wx → Laid wx) (hok : FOk N F) (hN : N ≤ 900000) (x : List UInt8) (hx : x.length ≤ 10000) :
    Calls Tryz.prog 17 #[.pointer (some ⟨Q, 0, none⟩), .pointer (some ⟨R, 0, none⟩), .int .i64 hd, .string ⟨x.toArray⟩] w fun e w' => e = .returned (.int .i64 0) ∧ FsAt B w0 Q foc hd v l (F.ins (cleanL (decide (k = 2)) x)) w' := by
  have hcl := clean_len (decide (k = 2)) x
  have hn := hok.n
  have hle := hok.le
  have hin := hok.in_
  have hfew := hok.few
  have HS := Lib.hid (selection_one h hO hF hk (by omega) hin (by omega))
  have HC := Lib.hid (fun wx (hb : Below w.heap.size w wx) => clean_any (h.rest.still hb) hO hF hk hL x hx)
  have HR := Lib.hid (fun wx (hb : Below w.heap.size w wx) => replace_one (h.still hb) hO hF hk hv hL hok.vd (by omega) F.st F.en (cleanL (decide (k = 2)) x) F.st F.en (.inl ⟨hle, hin⟩) (by omega))
  clear h hF hO hok
  unfold FT.ins
  generalize cleanL (decide (k = 2)) x = y at *
  go_enter Tryz.func17, Tryz.ntmps17
  go_wp2_with fail
  refine HS.out.mono ?_
  rintro e w1 ⟨rfl, hb1⟩
  go_wp2_with fail
  refine (HC.out _ hb1).mono ?_
  rintro e w2 ⟨rfl, hb2⟩
  go_wp2_with fail
  refine (HR.out _ (bthen hb1 hb2)).mono ?_
  rintro e w3 ⟨rfl, h3⟩
  have H3 := Lib.hid h3
  clear h3
  go_wp2_with fail
  go_ret
  exact ⟨rfl, H3.out⟩
end
section
variable {B : Nat} {w0 : World} {R : Nat} {S : Tr} {sv fv : Value} {K : Nat → List Nat} {d : Nat → Nat} {x : List UInt8}
theorem std_area {w : World} (h : TAt 0 R S sv fv w) (g : SgOk true x S K d) :
    Calls Tryz.prog 60 #[.pointer (some ⟨R, 0, none⟩), .int .i64 (S.hd 2)] w fun e w' => e = .returned (.string ⟨(fix x).toArray⟩) ∧ Below w.heap.size w w' := by
  obtain ⟨n, hn, hk, hnm, hat, hdt⟩ := nI_some g.n2
  obtain ⟨m, hm, hmk, _, _, hmd⟩ := nI_some (g.n3 rfl)
  have hkn : kindN n = 2 := by unfold kindN; rw [hnm]; rfl
  have HK := Lib.hid (kind_any h g.ok.lk 2 n hn (by rw [hat]; simp))
  rw [hkn] at HK
  have hw : wlk K (128 - d 2) 2 = [2, 3] := by
    rw [g.d2]
    show 2 :: (K 2).flatMap (wlk K 124) = _
    rw [g.k2]
    show 2 :: ((3 :: (K 3).flatMap (wlk K 123)) ++ []) = _
    rw [g.k3]; rfl
  have hc : ctn S (wlk K (128 - d 2) 2) = fix x := by
    rw [hw]
    unfold ctn
    simp only [List.flatMap_cons, List.flatMap_nil, hn, hm, hk, hmk, hmd]
    simp
  obtain ⟨gg, cap, rfl⟩ := slots_some h (by have := at_lt hn; omega)
  have HC := Lib.hid (fun wx (hb : Below w.heap.size w wx) => content_some (h.below hb) g.ok.lk 2 n hn (fun y ny hy => by have := (g.ok.nd y ny hy).dl; omega) (by rw [hw]; simp))
  rw [hc] at HC
  clear h g hn hm
  generalize fix x = y at *
  go_enter Tryz.func60, Tryz.ntmps60
  go_wp2_with fail
  refine HK.out.mono ?_
  rintro e w1 ⟨rfl, hb1⟩
  go_wp2_with fail
  refine (HC.out _ hb1).mono ?_
  rintro e w2 ⟨rfl, hb2⟩
  go_wp2_with fail
  go_ret
  exact ⟨rfl, bthen hb1 hb2⟩
theorem std_input {w : World} (h : TAt 0 R S sv fv w) (g : SgOk false x S K d) :
    Calls Tryz.prog 60 #[.pointer (some ⟨R, 0, none⟩), .int .i64 (S.hd 2)] w fun e w' => e = .returned (.string ⟨(fix x).toArray⟩) ∧ Below w.heap.size w w' := by
  obtain ⟨n, hn, hk, hnm, hat, hdt⟩ := nI_some g.n2
  have hav : attV n sValue = some (fix x) := by unfold attV attL; rw [if_pos hk, hat]; rfl
  have hat' : attV n sType = none := by unfold attV attL; rw [if_pos hk, hat]; rfl
  have hkn : kindN n = 1 := by unfold kindN; rw [hnm, hat']; rfl
  have hl : n.attrs.length ≤ 1000 := by rw [hat]; simp
  have HK := Lib.hid (kind_any h g.ok.lk 2 n hn hl)
  rw [hkn] at HK
  have HA := Lib.hid (fun wx (hb : Below w.heap.size w wx) => attr_at (h.below hb) g.ok.lk 2 n hn hl sValue)
  rw [hav] at HA
  simp only [Option.getD_some, Option.isSome_some] at HA
  clear h g hn
  generalize fix x = y at *
  go_enter Tryz.func60, Tryz.ntmps60
  go_wp2_with fail
  refine HK.out.mono ?_
  rintro e w1 ⟨rfl, hb1⟩
  go_wp2_with fail
  refine (HA.out _ hb1).mono ?_
  rintro e w2 ⟨rfl, hb2⟩
  go_wp2_with fail
  go_ret
  exact ⟨rfl, bthen hb1 hb2⟩
theorem sg_fd (area : Bool) (g : SgOk area x S K d) : FdOk B w0 R (trO R S sv fv) (S.hd 2) (if area then 2 else 1) (fix x) := by
  refine ⟨fun w h hb => ?_, fun w h hb => ?_⟩
  · obtain ⟨n, hn, hk, hnm, hat, hdt⟩ := nI_some g.n2
    have h' : TAt 0 R S sv fv w := h
    have hl : n.attrs.length ≤ 1000 := by rw [hat]; cases area <;> simp
    have := kind_any h' g.ok.lk 2 n hn hl
    have hkn : kindN n = if area then 2 else 1 := by
      unfold kindN
      rw [hnm]
      cases area with
      | true => rfl
      | false =>
        have hat' : attV n sType = none := by unfold attV attL; rw [if_pos hk, hat]; rfl
        rw [hat']; rfl
    rwa [hkn] at this
  · cases area with
    | true => exact std_area h g
    | false => exact std_input h g
end



section
variable {B : Nat} {w0 w : World} {Q R : Nat} {hd : Int} {l : List Ob} {v : List UInt8}
theorem FsAt.start (h : All B w0 (bk Q [.slice none 0 0, .int .i64 0] 30 :: l) w) (hd : Int) (v : List UInt8) : FsAt B w0 Q 0 hd v l (FT.of v) w := by
  refine ⟨.slice none 0 0, [], .slice none 0 0, .slice none 0 0, FInv.nil hd v, rfl, rfl, rfl, ?_⟩
  have h1 := h.nil 119 9
  have n0 : ∀ {l : List Ob}, All B w0 l w → All B w0 (ro 126 5 (.slice none 0 0) 0 [] :: l) w := fun hx => hx.new (Ro.nil w _ _) (Below.refl _ _) (fun k hk => hk.elim)
  have h2 := n0 (n0 h1)
  exact h2.perm (List.Perm.append_right l (l₁ := [_, _, _, _]) (List.reverse_perm [_, _, _, _]).symm)
theorem fok_of {N : Nat} (h : Vd v) (hN : v.length ≤ N) : FOk N (FT.of v) := ⟨h, Nat.le_refl _, Nat.le_refl _, hN, by simp [FT.of]⟩
end
set_option maxRecDepth 100000 in
set_option maxHeartbeats 4000000 in
theorem awake_any (w : World) (hT : Laid w) : Calls Tryz.prog 12 #[] w fun e w' => e = .returned (.bool true) ∧ Below w.heap.size w w' := by
  have hL : ∀ wx, Below w.heap.size w wx → Laid wx := fun wx hb => hT.below hb
  have HL := Lib.hid hL
  have HS := Lib.hid (single_any (All.start w) hL false [97, 98] (by decide))
  have hfx : fix [97, 98] = [97, 98] := by kernel_rfl
  have hvd : Vd [97, 98] := show rfix [97, 98] = [97, 98] by kernel_rfl
  clear hT hL
  go_enter Tryz.func12, Tryz.ntmps12
  go_wp2_with fail
  refine HS.out.mono ?_
  rintro e w1 ⟨R, S, sv, fv, K, d, rfl, hA1, hg⟩
  have hF : FdOk w.heap.size w R (trO R S sv fv) (S.hd 2) 1 (fix [97, 98]) := sg_fd false hg
  rw [hfx] at hF
  have hA2 := hA1.newBkA w1.heap.size rfl [.slice none 0 0, .int .i64 0] 30
  have hs := FsAt.start hA2 (S.hd 2) [97, 98]
  have HI := Lib.hid (insert_one hs (by simp) hF (.inl rfl) (by decide) HL.out (fok_of (N := 100) hvd (by decide)) (by omega) [99] (by decide))
  have hval : ((FT.of [97, 98]).ins (cleanL (decide (1 = 2)) [99])).val = [97, 98, 99] := by kernel_rfl
  clear hA1 hA2 hs HS
  generalize hd : S.hd 2 = hd at *
  go_wp2_with fail
  refine HI.out.mono ?_
  rintro e w2 ⟨rfl, hs2⟩
  have HV := Lib.hid (value_one hs2 (by simp) hF (.inl rfl))
  rw [hval] at HV
  have HB := Lib.hid hs2.rest.below
  clear hs2 hval
  go_wp2_with fail
  refine HV.out.mono ?_
  rintro e w3 ⟨rfl, hb3⟩
  go_wp2_with fail
  go_ret
  exact ⟨rfl, bthen HB.out hb3⟩
end Go.Proofs.YtacdbnhnhdlmpaaGreatDoor.W
end
