/- Texts joined: Spc Sta Fda Std. -/
import Derived.Test.YtacdbnhnhdlmpaaGreatDoorFX2
set_option maxRecDepth 100000
set_option maxHeartbeats 40000000
set_option linter.unusedVariables false
set_option linter.unusedSimpArgs false
section
namespace Go.Proofs.YtacdbnhnhdlmpaaGreatDoor.W
open Go.RowKit
section
variable {B R : Nat} {S : Tr} {sv fv : Value} {K : Nat → List Nat} {d : Nat → Nat} {w : World}
set_option maxRecDepth 100000 in
set_option maxHeartbeats 8000000 in
theorem scontent_any (h : TAt B R S sv fv w) (hL : Lk S K d) (hal : ∀ i n, S.at i = some n → n.attrs.length ≤ 1000) (hdt : ∀ x n, S.at x = some n → n.data.length ≤ 20000) (hsl : S.slots.length ≤ 10000) (i : Nat) (n : Nd) (hi : S.at i = some n) :
    Calls Tryz.prog 84 #[.pointer (some ⟨R, 0, none⟩), .int .i64 (S.hd i)] w fun e w' => e = .returned (.string ⟨(ctn S (wlk K (128 - d i) i)).toArray⟩) ∧ Below w.heap.size w w' := by
  have HW := Lib.hid (swalk_any (B := B) (R := R) (sv := sv) (fv := fv) hL (fun f i n hi => Nat.le_trans (wlk_len hL f i (by rw [hi]; rfl)) (by omega)) hal (128 - d i) i n hi rfl w h)
  have hlv : ∀ y ∈ wlk K (128 - d i) i, ∃ ny, S.at y = some ny := fun y hy => Option.isSome_iff_exists.1 (wlk_sub hL _ i y (by rw [hi]; rfl) hy).2
  have hll := wlk_len hL (128 - d i) i (by rw [hi]; rfl)
  obtain ⟨g, cap, rfl⟩ := slots_some h (by have := at_lt hi; omega)
  have HNo := Lib.hid (fun (k : Nat) (nk : Nd) (hk : S.at k = some nk) (wx : World) (hx : Below w.heap.size w wx) => snode_some (h.below hx) (S.hd k) (hd_ok hL hk).1 (hd_ix hL hk) (at_slot hk))
  have HAv := Lib.hid (fun (k : Nat) (nk : Nd) (hk : S.at k = some nk) => h.attrs k nk (at_slot hk))
  generalize wlk K (128 - d i) i = l at *
  have hcl := fun l => ctn_len hdt l
  clear h hi hal
  go_enter Tryz.func84, Tryz.ntmps84
  go_wp2_with fail
  refine HW.out.mono ?_
  rintro e w1 ⟨v, rfl, hv, hb1⟩
  obtain ⟨va, vc, rfl⟩ := own_shapeB hv
  have HV := Lib.hid hv
  have HB1 := Lib.hid hb1
  clear hv hb1 HW
  go_wp2_with fail
  go_loopw [5, 15] (fun ov iv wr => ∃ (t : Nat), t ≤ l.length ∧ iv = .int .i64 (t : Int) ∧ ov = .string ⟨(ctn S (l.take t)).toArray⟩ ∧ Below w1.heap.size w1 wr) (fun _ iv _ => l.length - (intOf iv).toNat)
  case atStart => exact ⟨0, by omega, rfl, rfl, Below.refl _ _⟩
  case round =>
    obtain ⟨t, ht, rfl, rfl, hb⟩ := hrel
    have HBr := Lib.hid hb
    clear hb
    by_cases htl : t < l.length
    · obtain ⟨k, hk⟩ : ∃ k, l[t]? = some k := ⟨_, List.getElem?_eq_getElem htl⟩
      obtain ⟨vg, rfl, _, hvc, ck⟩ := hdC_get (own_keepB HV.out HBr.out) hk
      obtain ⟨mk, hmk⟩ := hlv k (List.mem_of_getElem? hk)
      have hctn := ctn_snoc S (l.take t) k mk hmk
      rw [show l.take t ++ [k] = l.take (t + 1) by rw [List.take_add_one, hk]; rfl] at hctn
      have HCt := Lib.hid hctn
      have hdk := hdt k mk hmk
      have hl1 := hcl (l.take t)
      rw [List.length_take] at hl1
      have hl2 : (ctn S (l.take t)).length ≤ 20000 * 10000 := Nat.le_trans hl1 (Nat.mul_le_mul_left _ (by omega))
      have hs1 : ¬ 9223372036854775807 < (ctn S (l.take t)).length + mk.data.length := by omega
      have HM := Lib.hid (HNo.out k mk hmk _ (bthen HB1.out HBr.out))
      have hmv := HAv.out k mk hmk
      obtain ⟨mk, mm, mav, mal, mda, mp, mf, ml, mpv, mx⟩ := mk
      simp only at HCt hmv HM hs1
      obtain ⟨ma, mc, rfl, _⟩ := hmv
      generalize ctn S (l.take t) = ct at *
      clear hk hmk hctn hdk hl1 hl2
      go_wp2_with fail
      refine HM.out.mono ?_
      rintro e w2 ⟨rfl, hb2⟩
      simp only [ndC, strV]
      have k7 := Blk.new w2 [.int .i64 mk, .string ⟨mm.toArray⟩, .slice ma mal.length mc, .string ⟨mda.toArray⟩, .int .i64 mp, .int .i64 mf, .int .i64 ml, .int .i64 mpv, .int .i64 mx] 135
      have c0 := k7.cell 0
      have c3 := k7.cell 3
      simp only [List.getElem?_cons_zero, List.getElem?_cons_succ] at c0 c3
      have HB7 := Lib.hid (bthen HBr.out (hb2.alloc hb2.size (.cells #[.int .i64 mk, .string ⟨mm.toArray⟩, .slice ma mal.length mc, .string ⟨mda.toArray⟩, .int .i64 mp, .int .i64 mf, .int .i64 ml, .int .i64 mpv, .int .i64 mx] 135)))
      clear hb2 HM k7
      by_cases h3 : mk = 3
      · have e3 : ((mk : Int) == 3) = true := by simpa using h3
        have HR := Lib.hid (show ctn S (l.take (t + 1)) = ct ++ mda from by rw [HCt.out, if_pos h3])
        clear h3
        go_wp2_with fail
        go_roundw
        case rel =>
          refine ⟨t + 1, by omega, by go_num, ?_, HB7.out⟩
          rw [HR.out, ← bytes_app]
        case measure => simp [intOf]; omega
      · have e3 : ((mk : Int) == 3) = false := by simpa using h3
        have HR := Lib.hid (show ctn S (l.take (t + 1)) = ct from by rw [HCt.out, if_neg h3, List.append_nil])
        clear h3
        go_wp2_with fail
        go_roundw
        case rel => exact ⟨t + 1, by omega, by go_num, by rw [HR.out], HB7.out⟩
        case measure => simp [intOf]; omega
    · obtain rfl : t = l.length := by omega
      rw [List.take_length]
      go_wp2_with fail
      go_ret
      exact ⟨rfl, bthen HB1.out HBr.out⟩
def valN (S : Tr) (K : Nat → List Nat) (d : Nat → Nat) (i : Nat) (n : Nd) : List UInt8 :=
  if kindN n = 2 then ctn S (wlk K (128 - d i) i) else if attL n.attrs sValue = none ∧ (kindN n = 3 ∨ kindN n = 4) then [111, 110] else (attL n.attrs sValue).getD []
set_option maxRecDepth 100000 in
set_option maxHeartbeats 8000000 in
theorem svalue_any (h : TAt B R S sv fv w) (hL : Lk S K d) (hal : ∀ i n, S.at i = some n → n.attrs.length ≤ 1000) (hdt : ∀ x n, S.at x = some n → n.data.length ≤ 20000) (hsl : S.slots.length ≤ 10000) (i : Nat) (n : Nd) (hi : S.at i = some n) (hnm : n.kind ≠ 2 → n.name = []) :
    Calls Tryz.prog 38 #[.pointer (some ⟨R, 0, none⟩), .int .i64 (S.hd i)] w fun e w' => e = .returned (.string ⟨(valN S K d i n).toArray⟩) ∧ Below w.heap.size w w' := by
  have HK := Lib.hid (skind_any h hL i n hi (hal i n hi) hnm)
  have HC := Lib.hid (fun wx (hb : Below w.heap.size w wx) => scontent_any (h.below hb) hL hal hdt hsl i n hi)
  have HA := Lib.hid (fun wx (hb : Below w.heap.size w wx) => sattr_any (h.below hb) hL i n hi (hal i n hi) sValue)
  unfold valN
  generalize ctn S (wlk K (128 - d i) i) = ct at *
  generalize kindN n = k at *
  generalize attL n.attrs sValue = t at *
  obtain ⟨vv, hvv⟩ : ∃ vv, (if k = 2 then ct else if t = none ∧ (k = 3 ∨ k = 4) then [111, 110] else t.getD []) = vv := ⟨_, rfl⟩
  rw [hvv]
  have HVV := Lib.hid hvv
  clear h hi hal hdt hsl hvv
  go_enter Tryz.func38, Tryz.ntmps38
  go_wp2_with fail
  refine HK.out.mono ?_
  rintro e w1 ⟨rfl, hb1⟩
  by_cases h2 : k = 2
  · have HR := Lib.hid (show vv = ct from by rw [← HVV.out, if_pos h2])
    subst h2
    clear HVV
    go_wp2_with fail
    refine (HC.out _ hb1).mono ?_
    rintro e w2 ⟨rfl, hb2⟩
    have HB := Lib.hid (bthen hb1 hb2)
    clear hb2
    go_wp2_with fail
    go_ret
    rw [HR.out]
    exact ⟨rfl, HB.out⟩
  · have e2 : ((k : Int) == 2) = false := by simp; omega
    have hv2 : (if t = none ∧ (k = 3 ∨ k = 4) then [111, 110] else t.getD []) = vv := by have := HVV.out; rwa [if_neg h2] at this
    have HV2 := Lib.hid hv2
    clear h2 HVV hv2
    go_wp2_with fail
    refine (HA.out _ hb1).mono ?_
    rintro e w2 ⟨rfl, hb2⟩
    have HB := Lib.hid (bthen hb1 hb2)
    clear hb2 HA HC HK
    cases t with
    | some x =>
      have HR := Lib.hid (show vv = x from by rw [← HV2.out, if_neg (by simp)]; rfl)
      simp only [Option.getD_some, Option.isSome_some] at *
      clear HV2
      go_wp2_with fail
      go_ret
      rw [HR.out]
      exact ⟨rfl, HB.out⟩
    | none =>
      simp only [Option.getD_none, Option.isSome_none] at *
      by_cases h3 : k = 3
      · have HR := Lib.hid (show vv = [111, 110] from by rw [← HV2.out, if_pos ⟨by trivial, .inl h3⟩])
        subst h3
        clear HV2
        go_wp2_with fail
        go_ret
        rw [HR.out]
        exact ⟨rfl, HB.out⟩
      · have e3 : ((k : Int) == 3) = false := by simp; omega
        by_cases h4 : k = 4
        · have HR := Lib.hid (show vv = [111, 110] from by rw [← HV2.out, if_pos ⟨by trivial, .inr h4⟩])
          subst h4
          clear HV2
          go_wp2_with fail
          go_ret
          rw [HR.out]
          exact ⟨rfl, HB.out⟩
        · have e4 : ((k : Int) == 4) = false := by simp; omega
          have HR := Lib.hid (show vv = [] from by rw [← HV2.out, if_neg (fun q => by rcases q.2 with q | q; exact h3 q; exact h4 q)])
          clear h3 h4 HV2
          go_wp2_with fail
          go_ret
          rw [HR.out]
          exact ⟨rfl, HB.out⟩
end
end Go.Proofs.YtacdbnhnhdlmpaaGreatDoor.W
end
section
namespace Go.Proofs.YtacdbnhnhdlmpaaGreatDoor.W
open Go.RowKit
theorem trSet {c : Nat} {S : Tr} {K : Nat → List Nat} {d : Nat → Nat} (T : TrOk c S K d) {i : Nat} {n : Nd} (hn : S.at i = some n) {W0 : Nat} {S' : Tr} {name val : List UInt8} {v : Value} {er : Int} {ls : List (List Value)} (ht : SetX W0 S i n name val S' v er ls) (hna : name.length ≤ 200) (hva : val.length ≤ 50) : TrOk c S' K d := by
  have hok := T.nd _ n hn
  have hfx := fix_len val
  have hnew : headB name = true → headB name = true ∧ Lib.validD (fix val) = true ∧ name.length ≤ 200 ∧ (fix val).length ≤ 200 := fun h => ⟨h, fix_valid _, hna, by omega⟩
  cases ht with
  | kind h => exact T
  | arg _ _ => exact T
  | full _ _ _ _ => exact T
  | add v av hk h h1 h2 hfr =>
    refine T.put hn rfl rfl rfl rfl rfl rfl (hok.attrs hk av _ (fun a ha => ?_) ?_ (by simp; omega))
    · rcases List.mem_append.1 ha with ha | ha
      · exact hok.at_ a ha
      · rw [List.mem_singleton] at ha; subst ha; exact hnew h
    · rw [List.map_append, List.nodup_append]
      refine ⟨hok.nd, by simp, fun a ha b hb e => ?_⟩
      simp at hb
      subst hb e
      exact nmOf_neg h1 ha
  | set v av k y hk h h1 h2 hfr =>
    have hyn := nmOf_at h1 h2
    refine T.put hn rfl rfl rfl rfl rfl rfl (hok.attrs hk av _ (fun a ha => ?_) ?_ (by simp; exact hok.al))
    · rcases mem_set_or ha with e | ha
      · subst e; rw [hyn]; exact hnew h
      · exact hok.at_ a ha
    · rw [map_set_same h2]; exact hok.nd
theorem attL_add {l : List Atr} {a x v : List UInt8} (h : a ≠ x) : attL (l ++ [(a, v)]) x = attL l x := by
  unfold attL
  rw [List.find?_append]
  have : (a == x) = false := by simpa using h
  simp [this]
theorem attL_set {x v : List UInt8} {y : Atr} (h : y.1 ≠ x) : ∀ {l : List Atr} {k : Nat}, l[k]? = some y → attL (l.set k (y.1, v)) x = attL l x
  | [], _, hk => by simp at hk
  | z :: l, 0, hk => by
    have e : z = y := by simpa using hk
    subst e
    have : (z.1 == x) = false := by simpa using h
    unfold attL
    simp [this]
  | z :: l, k + 1, hk => by
    have ih := attL_set (v := v) h (l := l) (k := k) (by simpa using hk)
    unfold attL at ih ⊢
    rw [List.set_cons_succ, List.find?_cons, List.find?_cons]
    split
    · rfl
    · exact ih
structure DcS (S S' : Tr) (K : Nat → List Nat) (d : Nat → Nat) : Prop where
  ok : DcOk S' K d
  hd : ∀ x, S'.hd x = S.hd x
  nd : ∀ x m, S.at x = some m → ∃ m', S'.at x = some m' ∧ kindN m' = kindN m ∧ m'.kind = m.kind
theorem DcS.refl {S : Tr} {K : Nat → List Nat} {d : Nat → Nat} (D : DcOk S K d) : DcS S S K d := ⟨D, fun _ => rfl, fun x m h => ⟨m, h, rfl, rfl⟩⟩
theorem dcs_put {S : Tr} {K : Nat → List Nat} {d : Nat → Nat} (D : DcOk S K d) {i : Nat} {n n' : Nd} (hi : S.at i = some n) (hT : TrOk 1 (S.put i n') K d) (hk : n'.kind = n.kind) (hkk : kindN n' = kindN n) : DcS S (S.put i n') K d := by
  refine ⟨⟨hT, D.fr, by rw [put_len]; exact D.len, fun x hx h0 => D.att x ?_ h0⟩, fun x => hd_put S i n' x, fun x m hx => ?_⟩
  · rw [at_put hi] at hx
    split at hx
    · rename_i e; subst e; rw [hi]; rfl
    · exact hx
  · rw [at_put hi]
    by_cases e : x = i
    · subst e
      rw [hi] at hx; cases hx
      exact ⟨n', if_pos rfl, hkk, hk⟩
    · exact ⟨m, by rw [if_neg e]; exact hx, rfl, rfl⟩
theorem dcs_set {S : Tr} {K : Nat → List Nat} {d : Nat → Nat} (D : DcOk S K d) {i : Nat} {n : Nd} (hi : S.at i = some n) {W0 : Nat} {S' : Tr} {val : List UInt8} {v : Value} {er : Int} {ls : List (List Value)} (hx : SetX W0 S i n sValue val S' v er ls) (hv : val.length ≤ 50) : DcS S S' K d := by
  have hT := trSet D.ok hi hx (by decide) hv
  cases hx with
  | kind h => exact .refl D
  | arg _ _ => exact .refl D
  | full _ _ _ _ => exact .refl D
  | add v av hk h h1 h2 hfr =>
    refine dcs_put D hi hT rfl ?_
    unfold kindN attV
    rw [attL_add (by decide)]
  | set v av k y hk h h1 h2 hfr =>
    have hyn := nmOf_at h1 h2
    refine dcs_put D hi hT rfl ?_
    unfold kindN attV
    rw [attL_set (by rw [hyn]; decide) h2]
section
variable {B R : Nat} {S : Tr} {sv fv : Value} {w w0 : World} {K : Nat → List Nat} {d : Nat → Nat} {l1 l : List Ob}
theorem dset_all (h : All B w0 (l1 ++ trO R S sv fv :: l) w) (D : DcOk S K d) (i : Nat) (n : Nd) (hi : S.at i = some n) (val : List UInt8) (hv : val.length ≤ 50) (hL : Laid w) :
    Calls Tryz.prog 40 #[.pointer (some ⟨R, 0, none⟩), .int .i64 (S.hd i), strV sValue, strV val] w fun e w' => ∃ S' sv' fv' v er, e = .returned (.tuple #[v, .int .i64 er]) ∧ DcS S S' K d ∧ All B w0 (l1 ++ trO R S' sv' fv' :: l) w' := by
  have hT : TAt 0 R S sv fv w := h.mid
  obtain ⟨g, cap, rfl⟩ := slots_some hT (by have := at_lt hi; omega)
  refine (setAttr_any hT D.lk i n hi (D.ok.nd i n hi).al sValue val (by decide) (by omega) hL).mono ?_
  rintro e w' ⟨S', v, er, ls, hx, rfl, hrc, hT', hC⟩
  have hf : S'.slots.length = S.slots.length ∧ ∀ k, trF R S' (.slice (some ⟨g, 0, none⟩) S.slots.length cap) fv k → trF R S (.slice (some ⟨g, 0, none⟩) S.slots.length cap) fv k ∨ w.heap.size ≤ k := by
    cases id hx with
    | kind _ => exact ⟨rfl, fun k hk => .inl hk⟩
    | arg _ _ => exact ⟨rfl, fun k hk => .inl hk⟩
    | full _ _ _ _ => exact ⟨rfl, fun k hk => .inl hk⟩
    | add v av _ _ _ _ hfr => exact ⟨put_len _ _ _, fun k hk => trF_put hi (fun k hk => .inr (hfr k hk)) k hk⟩
    | set v av k y _ _ _ _ hfr => exact ⟨put_len _ _ _, fun k hk => trF_put hi (fun k hk => .inr (hfr k hk)) k hk⟩
  rw [hf.1] at hT'
  exact ⟨S', _, fv, v, er, rfl, dcs_set D hi hx hv, h.step l1 (o := trO R S (.slice (some ⟨g, 0, none⟩) S.slots.length cap) fv) (o' := trO R S' (.slice (some ⟨g, 0, none⟩) S.slots.length cap) fv) hT' (hC.mono (fun i _ e => by subst e; exact .inr (.inl rfl))) hf.2⟩
theorem valN_len (D : DcOk S K d) {i : Nat} {n : Nd} (hi : S.at i = some n) : (valN S K d i n).length ≤ 10000000 := by
  unfold valN
  split
  · have h1 := ctn_len D.dt (wlk K (128 - d i) i)
    have h2 := Nat.le_trans (wlk_len D.lk (128 - d i) i (by rw [hi]; rfl)) D.len
    have h3 : 20000 * (wlk K (128 - d i) i).length ≤ 20000 * 100 := Nat.mul_le_mul_left _ h2
    omega
  · split
    · decide
    · unfold attL
      cases e : n.attrs.find? fun y => y.1 == sValue with
      | none => simp
      | some y =>
        have := ((D.ok.nd i n hi).at_ y (List.mem_of_find?_eq_some e)).2.2.2
        simp
        omega
set_option maxRecDepth 100000 in
set_option maxHeartbeats 4000000 in
theorem kind_zero (h : TAt 0 R S sv fv w) :
    Calls Tryz.prog 31 #[.pointer (some ⟨R, 0, none⟩), .int .i64 0] w fun e w' => e = .returned (.int .i64 0) ∧ Below w.heap.size w w' := by
  have HN := Lib.hid (node_none h 0 (by unfold HOk; decide) (ix_zero S))
  have HA := Lib.hid (fun wx (hb : Below w.heap.size w wx) => attr_none (h.below hb) 0 (by unfold HOk; decide) (ix_zero S) ⟨sType.toArray⟩)
  clear h
  go_enter Tryz.func31, Tryz.ntmps31
  go_wp2_with fail
  refine HN.out.mono ?_
  rintro e w1 ⟨v', rfl, ho, hb1⟩
  obtain ⟨va, vc, rfl⟩ := own_shapeB ho
  clear ho
  simp only [ndC, strV, zeroN]
  have hb2 := hb1.alloc hb1.size (.cells #[.int .i64 0, .string ⟨#[]⟩, .slice va 0 vc, .string ⟨#[]⟩, .int .i64 0, .int .i64 0, .int .i64 0, .int .i64 0, .int .i64 0] 135)
  have kn := Blk.new w1 [.int .i64 0, .string ⟨#[]⟩, .slice va 0 vc, .string ⟨#[]⟩, .int .i64 0, .int .i64 0, .int .i64 0, .int .i64 0, .int .i64 0] 135
  go_wp2_with fail
  refine (HA.out _ hb2).mono ?_
  rintro e w2 ⟨rfl, hb3⟩
  have c1 := (kn.below hb3).cell 1
  simp only [List.getElem?_cons_zero, List.getElem?_cons_succ] at c1
  have HB := Lib.hid (bthen hb2 hb3)
  clear hb1 hb2 hb3 kn HN HA
  go_wp2_with fail
  go_ret
  exact ⟨rfl, HB.out⟩
set_option maxRecDepth 100000 in
set_option maxHeartbeats 4000000 in
theorem owner_zero (h : TAt 0 R S sv fv w) :
    Calls Tryz.prog 32 #[.pointer (some ⟨R, 0, none⟩), .int .i64 0] w fun e w' => e = .returned (.int .i64 0) ∧ Below w.heap.size w w' := by
  have HN := Lib.hid (node_none h 0 (by unfold HOk; decide) (ix_zero S))
  clear h
  go_enter Tryz.func32, Tryz.ntmps32
  go_wp2_with fail
  refine HN.out.mono ?_
  rintro e w1 ⟨v', rfl, ho, hb1⟩
  obtain ⟨va, vc, rfl⟩ := own_shapeB ho
  clear ho
  simp only [ndC, strV, zeroN]
  have hb2 := hb1.alloc hb1.size (.cells #[.int .i64 0, .string ⟨#[]⟩, .slice va 0 vc, .string ⟨#[]⟩, .int .i64 0, .int .i64 0, .int .i64 0, .int .i64 0, .int .i64 0] 135)
  have HB := Lib.hid hb2
  clear hb1 hb2 HN
  go_wp2_with fail
  go_loopw [7] (fun hv wr => hv = .int .i64 0 ∧ Below w.heap.size w wr) (fun _ _ => 0)
  case atStart => exact ⟨rfl, HB.out⟩
  case round =>
    obtain ⟨rfl, hb⟩ := hrel
    have HB2 := Lib.hid hb
    clear hb
    go_wp2_with fail
    go_ret
    exact ⟨rfl, HB2.out⟩
end
end Go.Proofs.YtacdbnhnhdlmpaaGreatDoor.W
end
section
namespace Go.Proofs.YtacdbnhnhdlmpaaGreatDoor.W
open Go.RowKit
section
variable {B : Nat} {w0 w : World} {Q R : Nat} {fa : Value} {foc hd : Int} {X : List FX} {l : List Ob} {O : Ob} {k : Nat} {v : List UInt8}
theorem written_no {k : Nat} (hk : ¬ (k = 1 ∨ k = 2)) (w : World) : Calls Tryz.prog 59 #[.int .i64 (k : Int)] w fun e w' => e = .returned (.bool false) ∧ w' = w := by
  have := written_any k w
  rwa [decide_eq_false hk] at this
def selX (x : FX) (a b : Int) : FX := { x with t := x.t.sel a b }
def valS (x : FX) (y : List UInt8) : FX := { x with t := ⟨y, nL y, nL y, [], []⟩, uv := .slice none 0 0, rv := .slice none 0 0 }
set_option maxRecDepth 100000 in
set_option maxHeartbeats 8000000 in
theorem select_st (h : All B w0 (fsL Q fa foc X ++ l) w) (hO : O ∈ l) (hF : FdOk B w0 R O hd k v) (hk : k = 1 ∨ k = 2) (hl : X.length ≤ 100000) (hv : v.length ≤ 10000000) (hln : (dirtX (getX X hd) v).t.val.length ≤ 10000000) (a b : Int) :
    Calls Tryz.prog 19 #[.pointer (some ⟨Q, 0, none⟩), .pointer (some ⟨R, 0, none⟩), .int .i64 hd, .int .i64 a, .int .i64 b] w fun e w' => e = .returned (.int .i64 0) ∧ ∃ fa', All B w0 (fsL Q fa' foc (upX X hd (selX (dirtX (getX X hd) v) a b)) ++ l) w' := by
  have HK := Lib.hid (hF.kindA (List.mem_append_right _ hO) h)
  have HW := Lib.hid (written_yes hk)
  have HDi := Lib.hid (fun wx (hb : Below w.heap.size w wx) => dirty_any (h.still hb) hO hF hl hv)
  have hi := up_at X hd (dirtX (getX X hd) v)
  have hset : ∀ y z, (upX X hd z).set (idxX X hd) y = upX X hd y := fun y z => up_set X hd z y
  have hat : ∀ y, (upX X hd y)[idxX X hd]? = some y := fun y => up_at X hd y
  have hlen : ∀ y, (upX X hd y).length = (upX X hd (dirtX (getX X hd) v)).length := fun y => by rw [← hset y (dirtX (getX X hd) v), List.length_set]
  unfold selX
  generalize dirtX (getX X hd) v = x at *
  have HLe := Lib.hid (fun wx => len_n x.t.val wx hln)
  clear h hF hO
  go_enter Tryz.func19, Tryz.ntmps19
  go_wp2_with fail
  refine HK.out.mono ?_
  rintro e w1 ⟨rfl, hb1⟩
  go_wp2_with fail
  refine (HW.out _).mono ?_
  rintro e w2 ⟨rfl, hw⟩
  subst hw
  go_wp2_with fail
  refine (HDi.out _ hb1).mono ?_
  rintro e w3 ⟨g, cap, rfl, hA⟩
  obtain ⟨c2, f2⟩ := st_cell hA hi (j := 2) (by omega)
  rw [show (fxC x)[2]? = some (.string ⟨x.t.val.toArray⟩) from rfl] at c2
  have HA := Lib.hid hA
  clear hA hb1
  go_wp2_with fail
  refine (HLe.out _).mono ?_
  rintro e w4 ⟨rfl, hb4⟩
  have hA4 := HA.out.still hb4
  obtain ⟨c5, f5⟩ := st_cell hA4 hi (j := 5) (by omega)
  obtain ⟨c6, f6⟩ := st_cell hA4 hi (j := 6) (by omega)
  rw [show (fxC x)[5]? = some (.int .i64 (x.t.st : Int)) from rfl] at c5
  rw [show (fxC x)[6]? = some (.int .i64 (x.t.en : Int)) from rfl] at c6
  have hA5 := fs_set hA4 rfl hi { x with t := { x.t with st := (x.t.sel a b).st } } 5 (.int .i64 (min (max a 0) (nL x.t.val : Int))) (by omega) (by
    simp only [fxC, List.set_cons_succ, List.set_cons_zero, FT.sel]
    rw [Int.toNat_of_nonneg (by omega)])
  rw [hset] at hA5
  have hA6 := fs_set hA5 (hlen _).symm (hat _) { x with t := x.t.sel a b } 6 (.int .i64 (max (min (max b 0) (nL x.t.val : Int)) (min (max a 0) (nL x.t.val : Int)))) (by omega) (by
    simp only [fxC, List.set_cons_succ, List.set_cons_zero, FT.sel]
    rw [Int.toNat_of_nonneg (by omega), Int.toNat_of_nonneg (by omega)])
  rw [hset] at hA6
  have HA6 := Lib.hid hA6
  have hnn : (nL x.t.val : Int) ≤ 10000000 := by have := nL_le x.t.val; omega
  clear hA4 hA5 hA6 hb4 c2 f2 HA hi hset hat hlen
  go_wp2_with fail
  go_ret
  exact ⟨rfl, _, HA6.out⟩
set_option maxRecDepth 100000 in
set_option maxHeartbeats 8000000 in
theorem setValue_st (h : All B w0 (fsL Q fa foc X ++ l) w) (hO : O ∈ l) (hF : FdOk B w0 R O hd k v) (hk : k = 1 ∨ k = 2) (hX : X.length ≤ 100000) (hv : v.length ≤ 10000000) (hL : ∀ wx, Below B w0 wx → Laid wx) (x : List UInt8) (hx : x.length ≤ 10000) :
    Calls Tryz.prog 37 #[.pointer (some ⟨Q, 0, none⟩), .pointer (some ⟨R, 0, none⟩), .int .i64 hd, .string ⟨x.toArray⟩] w fun e w' => e = .returned (.int .i64 0) ∧ ∃ fa', All B w0 (fsL Q fa' foc (upX X hd (valS (dirtX (getX X hd) v) (cleanL (decide (k = 2)) x))) ++ l) w' := by
  have hcl := clean_len (decide (k = 2)) x
  have HK := Lib.hid (hF.kindA (List.mem_append_right _ hO) h)
  have HW := Lib.hid (written_yes hk)
  have HC := Lib.hid (fun wx (hb : Below w.heap.size w wx) => clean_any (h.still hb) (List.mem_append_right _ hO) hF hk hL x hx)
  have HDi := Lib.hid (fun wx (hb : Below w.heap.size w wx) => dirty_any (h.still hb) hO hF hX hv)
  have HLx := Lib.hid (fun wx => len_n (cleanL (decide (k = 2)) x) wx (by omega))
  have hsz : (⟨(cleanL (decide (k = 2)) x).toArray⟩ : ByteArray).size ≤ 40000 := by show (cleanL (decide (k = 2)) x).toArray.size ≤ _; simp; omega
  have hi := up_at X hd (dirtX (getX X hd) v)
  have hset : ∀ y z, (upX X hd z).set (idxX X hd) y = upX X hd y := fun y z => up_set X hd z y
  have hat : ∀ y, (upX X hd y)[idxX X hd]? = some y := fun y => up_at X hd y
  have hlen : ∀ y, (upX X hd y).length = (upX X hd (dirtX (getX X hd) v)).length := fun y => by rw [← hset y (dirtX (getX X hd) v), List.length_set]
  unfold valS
  generalize dirtX (getX X hd) v = z at *
  clear h hF hO
  generalize cleanL (decide (k = 2)) x = y at *
  go_enter Tryz.func37, Tryz.ntmps37
  go_wp2_with fail
  refine HK.out.mono ?_
  rintro e w1 ⟨rfl, hb1⟩
  go_wp2_with fail
  refine (HW.out _).mono ?_
  rintro e w2 ⟨rfl, hw⟩
  subst hw
  go_wp2_with fail
  refine (HC.out _ hb1).mono ?_
  rintro e w3 ⟨rfl, hb3⟩
  have hb3' := bthen hb1 hb3
  have hds : decide ((1048576 : Int) < (((⟨y.toArray⟩ : ByteArray).size : Nat) : Int)) = false := by simp; omega
  generalize hNV : (⟨y.toArray⟩ : ByteArray) = NV at *
  have HNV := Lib.hid hNV
  clear hNV hb1 hb3
  go_wp2_with fail
  refine (HDi.out _ hb3').mono ?_
  rintro e w4 ⟨g, cap, rfl, hA⟩
  obtain ⟨c2, f2⟩ := st_cell hA hi (j := 2) (by omega)
  rw [show (fxC z)[2]? = some (.string ⟨z.t.val.toArray⟩) from rfl] at c2
  have hA2 := fs_set hA rfl hi { z with t := { z.t with val := y } } 2 (.string NV) (by omega) (by rw [← HNV.out]; rfl)
  rw [hset] at hA2
  have HA2 := Lib.hid hA2
  clear hA hA2 hb3'
  go_wp2_with fail
  refine (HLx.out _).mono ?_
  rintro e w5 ⟨rfl, hb5⟩
  have hA5 := HA2.out.still hb5
  rw [← hlen { z with t := { z.t with val := y } }] at hA5
  obtain ⟨c5, f5⟩ := st_cell hA5 (hat _) (j := 5) (by omega)
  obtain ⟨c6, f6⟩ := st_cell hA5 (hat _) (j := 6) (by omega)
  obtain ⟨c7, f7⟩ := st_cell hA5 (hat _) (j := 7) (by omega)
  obtain ⟨c8, f8⟩ := st_cell hA5 (hat _) (j := 8) (by omega)
  have hA6 := fs_set hA5 rfl (hat _) { z with t := { z.t with val := y, st := nL y } } 5 (.int .i64 (nL y : Int)) (by omega) rfl
  rw [hset] at hA6
  have hA7 := fs_set hA6 ((hlen _).trans (hlen _).symm) (hat _) { z with t := { z.t with val := y, st := nL y, en := nL y } } 6 (.int .i64 (nL y : Int)) (by omega) rfl
  rw [hset] at hA7
  have hA8 := fs_set hA7 ((hlen _).trans (hlen _).symm) (hat _) { z with t := { z.t with val := y, st := nL y, en := nL y }, uv := .slice none 0 0 } 7 (.slice none 0 0) (by omega) rfl
  rw [hset] at hA8
  have hA9 := fs_set hA8 ((hlen _).trans (hlen _).symm) (hat _) { z with t := ⟨y, nL y, nL y, [], []⟩, uv := .slice none 0 0, rv := .slice none 0 0 } 8 (.slice none 0 0) (by omega) rfl
  rw [hset] at hA9
  have HA9 := Lib.hid hA9
  clear hA5 hA6 hA7 hA8 hA9 hb5 c2 f2 hi hset hat hlen
  go_wp2_with fail
  go_ret
  exact ⟨rfl, _, HA9.out⟩
set_option maxRecDepth 100000 in
set_option maxHeartbeats 4000000 in
theorem undo_st (h : All B w0 (fsL Q fa foc X ++ l) w) (hO : O ∈ l) (hF : FdOk B w0 R O hd k v) (hk : k = 1 ∨ k = 2) (hl : X.length ≤ 100000) (hu : (getX X hd).uv = .slice none 0 0) :
    Calls Tryz.prog 21 #[.pointer (some ⟨Q, 0, none⟩), .pointer (some ⟨R, 0, none⟩), .int .i64 hd] w fun e w' => e = .returned (.tuple #[.bool false, .int .i64 0]) ∧ Below w.heap.size w w' := by
  have HK := Lib.hid (hF.kindA (List.mem_append_right _ hO) h)
  have HW := Lib.hid (written_yes hk)
  have HFd := Lib.hid (fun wx (hb : Below w.heap.size w wx) => find_any (h.still hb) hd (by omega))
  cases hf : fixX X hd with
  | none =>
    rw [hf] at HFd
    have e1 : fatO fa none = none := rfl
    rw [e1] at HFd
    clear h hF hO hf
    go_enter Tryz.func21, Tryz.ntmps21
    go_wp2_with fail
    refine HK.out.mono ?_
    rintro e w1 ⟨rfl, hb1⟩
    go_wp2_with fail
    refine (HW.out _).mono ?_
    rintro e w2 ⟨rfl, hw⟩
    subst hw
    go_wp2_with fail
    refine (HFd.out _ hb1).mono ?_
    rintro e w2 ⟨rfl, hw⟩
    subst hw
    go_wp2_with fail
    go_ret2
    exact ⟨rfl, hb1⟩
  | some i =>
    obtain ⟨g, cap, rfl, he, _⟩ := get_cell h hf
    rw [he] at HFd
    have HC := Lib.hid (fun wx (hb : Below w.heap.size w wx) j (hj : j < 9) => st_cell (h.still hb) (fix_some hf).2.1 hj)
    generalize getX X hd = x at *
    clear h hF hO hf he
    go_enter Tryz.func21, Tryz.ntmps21
    go_wp2_with fail
    refine HK.out.mono ?_
    rintro e w1 ⟨rfl, hb1⟩
    go_wp2_with fail
    refine (HW.out _).mono ?_
    rintro e w2 ⟨rfl, hw⟩
    subst hw
    go_wp2_with fail
    refine (HFd.out _ hb1).mono ?_
    rintro e w2 ⟨rfl, hw⟩
    subst hw
    have c7 := (HC.out _ hb1 7 (by omega)).1
    rw [show (fxC x)[7]? = some x.uv from rfl, hu] at c7
    clear hu
    go_wp2_with fail
    go_ret2
    exact ⟨rfl, hb1⟩
theorem setValue_ty (hK : Calls Tryz.prog 31 #[.pointer (some ⟨R, 0, none⟩), .int .i64 hd] w fun e w' => e = .returned (.int .i64 (k : Int)) ∧ Below w.heap.size w w') (hk : ¬ (k = 1 ∨ k = 2)) (x : ByteArray) :
    Calls Tryz.prog 37 #[.pointer (some ⟨Q, 0, none⟩), .pointer (some ⟨R, 0, none⟩), .int .i64 hd, .string x] w fun e w' => e = .returned (.int .i64 8) ∧ Below w.heap.size w w' := by
  have HK := Lib.hid hK
  have HW := Lib.hid (written_no hk)
  clear hK
  go_enter Tryz.func37, Tryz.ntmps37
  go_wp2_with fail
  refine HK.out.mono ?_
  rintro e w1 ⟨rfl, hb1⟩
  go_wp2_with fail
  refine (HW.out _).mono ?_
  rintro e w2 ⟨rfl, hw⟩
  subst hw
  go_wp2_with fail
  go_ret
  exact ⟨rfl, hb1⟩
theorem select_ty (hK : Calls Tryz.prog 31 #[.pointer (some ⟨R, 0, none⟩), .int .i64 hd] w fun e w' => e = .returned (.int .i64 (k : Int)) ∧ Below w.heap.size w w') (hk : ¬ (k = 1 ∨ k = 2)) (a b : Int) :
    Calls Tryz.prog 19 #[.pointer (some ⟨Q, 0, none⟩), .pointer (some ⟨R, 0, none⟩), .int .i64 hd, .int .i64 a, .int .i64 b] w fun e w' => e = .returned (.int .i64 8) ∧ Below w.heap.size w w' := by
  have HK := Lib.hid hK
  have HW := Lib.hid (written_no hk)
  clear hK
  go_enter Tryz.func19, Tryz.ntmps19
  go_wp2_with fail
  refine HK.out.mono ?_
  rintro e w1 ⟨rfl, hb1⟩
  go_wp2_with fail
  refine (HW.out _).mono ?_
  rintro e w2 ⟨rfl, hw⟩
  subst hw
  go_wp2_with fail
  go_ret
  exact ⟨rfl, hb1⟩
theorem selection_ty (hK : Calls Tryz.prog 31 #[.pointer (some ⟨R, 0, none⟩), .int .i64 hd] w fun e w' => e = .returned (.int .i64 (k : Int)) ∧ Below w.heap.size w w') (hk : ¬ (k = 1 ∨ k = 2)) :
    Calls Tryz.prog 16 #[.pointer (some ⟨Q, 0, none⟩), .pointer (some ⟨R, 0, none⟩), .int .i64 hd] w fun e w' => e = .returned (.tuple #[.int .i64 0, .int .i64 0, .int .i64 8]) ∧ Below w.heap.size w w' := by
  have HK := Lib.hid hK
  have HW := Lib.hid (written_no hk)
  clear hK
  go_enter Tryz.func16, Tryz.ntmps16
  go_wp2_with fail
  refine HK.out.mono ?_
  rintro e w1 ⟨rfl, hb1⟩
  go_wp2_with fail
  refine (HW.out _).mono ?_
  rintro e w2 ⟨rfl, hw⟩
  subst hw
  go_wp2_with fail
  go_ret3
  exact ⟨rfl, hb1⟩
theorem undo_ty (hK : Calls Tryz.prog 31 #[.pointer (some ⟨R, 0, none⟩), .int .i64 hd] w fun e w' => e = .returned (.int .i64 (k : Int)) ∧ Below w.heap.size w w') (hk : ¬ (k = 1 ∨ k = 2)) :
    Calls Tryz.prog 21 #[.pointer (some ⟨Q, 0, none⟩), .pointer (some ⟨R, 0, none⟩), .int .i64 hd] w fun e w' => e = .returned (.tuple #[.bool false, .int .i64 8]) ∧ Below w.heap.size w w' := by
  have HK := Lib.hid hK
  have HW := Lib.hid (written_no hk)
  clear hK
  go_enter Tryz.func21, Tryz.ntmps21
  go_wp2_with fail
  refine HK.out.mono ?_
  rintro e w1 ⟨rfl, hb1⟩
  go_wp2_with fail
  refine (HW.out _).mono ?_
  rintro e w2 ⟨rfl, hw⟩
  subst hw
  go_wp2_with fail
  go_ret2
  exact ⟨rfl, hb1⟩
theorem value_ty (hK : Calls Tryz.prog 31 #[.pointer (some ⟨R, 0, none⟩), .int .i64 hd] w fun e w' => e = .returned (.int .i64 0) ∧ Below w.heap.size w w') :
    Calls Tryz.prog 15 #[.pointer (some ⟨Q, 0, none⟩), .pointer (some ⟨R, 0, none⟩), .int .i64 hd] w fun e w' => e = .returned (.tuple #[.string ⟨#[]⟩, .int .i64 8]) ∧ Below w.heap.size w w' := by
  have HK := Lib.hid hK
  clear hK
  go_enter Tryz.func15, Tryz.ntmps15
  go_wp2_with fail
  refine HK.out.mono ?_
  rintro e w1 ⟨rfl, hb1⟩
  go_wp2_with fail
  go_ret2
  exact ⟨rfl, hb1⟩
end
end Go.Proofs.YtacdbnhnhdlmpaaGreatDoor.W
end
section
namespace Go.Proofs.YtacdbnhnhdlmpaaGreatDoor.W
open Go.RowKit
section
variable {B R : Nat} {S : Tr} {sv fv : Value} {w0 w : World} {K : Nat → List Nat} {d : Nat → Nat}
set_option maxRecDepth 100000 in
set_option maxHeartbeats 4000000 in
theorem std_any (D : DcOk S K d) (h : TAt 0 R S sv fv w) (i : Nat) (n : Nd) (hi : S.at i = some n) :
    Calls Tryz.prog 60 #[.pointer (some ⟨R, 0, none⟩), .int .i64 (S.hd i)] w fun e w' => e = .returned (.string ⟨(valN S K d i n).toArray⟩) ∧ Below w.heap.size w w' := by
  have HK := Lib.hid (kind_any h D.lk i n hi (D.al i n hi))
  obtain ⟨gg, cap, rfl⟩ := slots_some h (by have := at_lt hi; omega)
  have HC := Lib.hid (fun wx (hb : Below w.heap.size w wx) => content_some (h.below hb) D.lk i n hi D.dt (Nat.le_trans (wlk_len D.lk _ i (by rw [hi]; rfl)) (by have := D.len; omega)))
  have HA := Lib.hid (fun wx (hb : Below w.heap.size w wx) => attr_at (h.below hb) D.lk i n hi (D.al i n hi) sValue)
  obtain ⟨vv, hvv⟩ : ∃ vv, valN S K d i n = vv := ⟨_, rfl⟩
  rw [hvv]
  unfold valN at hvv
  rw [D.attL hi] at hvv
  generalize ctn S (wlk K (128 - d i) i) = ct at *
  generalize kindN n = kx at *
  generalize attV n sValue = t at *
  have HV := Lib.hid hvv
  clear h hi hvv
  by_cases h2 : kx = 2
  · have HR := Lib.hid (show vv = ct from by rw [← HV.out, if_pos h2])
    have e2 : ((kx : Int) == 2) = true := by simp [h2]
    clear h2 HV
    go_enter Tryz.func60, Tryz.ntmps60
    go_wp2_with fail
    refine HK.out.mono ?_
    rintro e w1 ⟨rfl, hb1⟩
    go_wp2_with fail
    refine (HC.out _ hb1).mono ?_
    rintro e w2 ⟨rfl, hb2⟩
    go_wp2_with fail
    go_ret
    rw [HR.out]
    exact ⟨rfl, bthen hb1 hb2⟩
  · have e2 : ((kx : Int) == 2) = false := by simp; omega
    cases t with
    | none =>
      simp only [Option.getD_none, Option.isSome_none] at HA
      by_cases h3 : kx = 3
      · have HR := Lib.hid (show vv = [111, 110] from by rw [← HV.out, if_neg h2, if_pos ⟨rfl, .inl h3⟩])
        have e3 : ((kx : Int) == 3) = true := by simp [h3]
        clear h2 h3 HV
        go_enter Tryz.func60, Tryz.ntmps60
        go_wp2_with fail
        refine HK.out.mono ?_
        rintro e w1 ⟨rfl, hb1⟩
        go_wp2_with fail
        refine (HA.out _ hb1).mono ?_
        rintro e w2 ⟨rfl, hb2⟩
        go_wp2_with fail
        go_ret
        rw [HR.out]
        exact ⟨rfl, bthen hb1 hb2⟩
      · have e3 : ((kx : Int) == 3) = false := by simp; omega
        by_cases h4 : kx = 4
        · have HR := Lib.hid (show vv = [111, 110] from by rw [← HV.out, if_neg h2, if_pos ⟨rfl, .inr h4⟩])
          have e4 : ((kx : Int) == 4) = true := by simp [h4]
          clear h2 h3 h4 HV
          go_enter Tryz.func60, Tryz.ntmps60
          go_wp2_with fail
          refine HK.out.mono ?_
          rintro e w1 ⟨rfl, hb1⟩
          go_wp2_with fail
          refine (HA.out _ hb1).mono ?_
          rintro e w2 ⟨rfl, hb2⟩
          go_wp2_with fail
          go_ret
          rw [HR.out]
          exact ⟨rfl, bthen hb1 hb2⟩
        · have e4 : ((kx : Int) == 4) = false := by simp; omega
          have HR := Lib.hid (show vv = [] from by rw [← HV.out, if_neg h2, if_neg (fun q => q.2.elim h3 h4)]; rfl)
          clear h2 h3 h4 HV
          go_enter Tryz.func60, Tryz.ntmps60
          go_wp2_with fail
          refine HK.out.mono ?_
          rintro e w1 ⟨rfl, hb1⟩
          go_wp2_with fail
          refine (HA.out _ hb1).mono ?_
          rintro e w2 ⟨rfl, hb2⟩
          go_wp2_with fail
          go_ret
          rw [HR.out]
          exact ⟨rfl, bthen hb1 hb2⟩
    | some x =>
      simp only [Option.getD_some, Option.isSome_some] at HA
      have HR := Lib.hid (show vv = x from by rw [← HV.out, if_neg h2, if_neg (fun q => by cases q.1)]; rfl)
      clear h2 HV
      go_enter Tryz.func60, Tryz.ntmps60
      go_wp2_with fail
      refine HK.out.mono ?_
      rintro e w1 ⟨rfl, hb1⟩
      go_wp2_with fail
      refine (HA.out _ hb1).mono ?_
      rintro e w2 ⟨rfl, hb2⟩
      go_wp2_with fail
      go_ret
      rw [HR.out]
      exact ⟨rfl, bthen hb1 hb2⟩
theorem fd_any (D : DcOk S K d) (i : Nat) (n : Nd) (hi : S.at i = some n) : FdOk B w0 R (trO R S sv fv) (S.hd i) (kindN n) (valN S K d i n) :=
  ⟨fun w h hb => kind_any (show TAt 0 R S sv fv w from h) D.lk i n hi (D.al i n hi), fun w h hb => std_any D (show TAt 0 R S sv fv w from h) i n hi⟩
end
end Go.Proofs.YtacdbnhnhdlmpaaGreatDoor.W
end
