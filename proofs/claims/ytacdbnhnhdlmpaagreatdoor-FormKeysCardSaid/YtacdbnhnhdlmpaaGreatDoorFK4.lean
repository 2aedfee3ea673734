/- Texts joined: Kyz. -/
import Derived.Test.YtacdbnhnhdlmpaaGreatDoorFK3
set_option maxRecDepth 100000
set_option maxHeartbeats 40000000
set_option linter.unusedVariables false
set_option linter.unusedSimpArgs false
section
namespace Go.Proofs.YtacdbnhnhdlmpaaGreatDoor.W
open Go.RowKit
section
variable {B : Nat} {w0 w : World} {Q P : Nat} {h g : Int} {v : List UInt8} {F F1 F2 : FT} {rest : List Ob} {ar : Bool}
def Ky2 (B : Nat) (w0 : World) (Q P : Nat) (h g : Int) (v : List UInt8) (F1 F2 : FT) (rest : List Ob) (w : World) : Prop :=
  ∃ l1 l2, FsL B w0 Q h h v F1 l1 ∧ FsL B w0 P 0 g v F2 l2 ∧ All B w0 (l1 ++ (l2 ++ rest)) w
theorem Ky2.still {w' : World} (k : Ky2 B w0 Q P h g v F1 F2 rest w) (hb : Below w.heap.size w w') : Ky2 B w0 Q P h g v F1 F2 rest w' := let ⟨l1, l2, h1, h2, h3⟩ := k; ⟨l1, l2, h1, h2, h3.still hb⟩
theorem Ky2.below (k : Ky2 B w0 Q P h g v F1 F2 rest w) : Below B w0 w := let ⟨_, _, _, _, h3⟩ := k; h3.below
theorem Ky2.mem (k : Ky2 B w0 Q P h g v F1 F2 rest w) {o : Ob} (ho : o ∈ rest) : o.P w := let ⟨_, _, _, _, h3⟩ := k; h3.P o (by simp [ho])
theorem Ky2.s (k : Ky2 B w0 Q P h g v F1 F2 rest w) : ∃ l, (∀ o ∈ rest, o ∈ l) ∧ FsAt B w0 Q h h v l F1 w ∧ ∀ F' w', FsAt B w0 Q h h v l F' w' → Ky2 B w0 Q P h g v F' F2 rest w' := by
  obtain ⟨l1, l2, h1, h2, h3⟩ := k
  refine ⟨l2 ++ rest, fun o ho => by simp [ho], h1 _ _ h3, fun F' w' h' => ?_⟩
  obtain ⟨l1', h1', h3'⟩ := h'.lens
  exact ⟨l1', l2, h1', h2, h3'⟩
theorem Ky2.u (k : Ky2 B w0 Q P h g v F1 F2 rest w) : ∃ l, (∀ o ∈ rest, o ∈ l) ∧ FsAt B w0 P 0 g v l F2 w ∧ ∀ F' w', FsAt B w0 P 0 g v l F' w' → Ky2 B w0 Q P h g v F1 F' rest w' := by
  obtain ⟨l1, l2, h1, h2, h3⟩ := k
  refine ⟨l1 ++ rest, fun o ho => by simp [ho], h2 _ _ (h3.perm (List.perm_append_comm_assoc ..)), fun F' w' h' => ?_⟩
  obtain ⟨l2', h2', h3'⟩ := h'.lens
  exact ⟨l1, l2', h1, h2', h3'.perm (List.perm_append_comm_assoc ..)⟩
theorem Ky2.new {w' : World} {o : Ob} (k : Ky2 B w0 Q P h g v F1 F2 rest w) (hp : o.P w') (hb : Below w.heap.size w w') (hk : ∀ i, o.F i → w.heap.size ≤ i) : Ky2 B w0 Q P h g v F1 F2 (o :: rest) w' := by
  obtain ⟨l1, l2, h1, h2, h3⟩ := k
  exact ⟨l1, l2, h1, h2, (h3.new hp hb hk).perm (pmC _ _ _ _)⟩
theorem Ky2.setB {r : Nat} {cs : List Value} {ty : TypeId} (k : Ky2 B w0 Q P h g v F1 F2 (bk r cs ty :: rest) w) (j : Nat) (u : Value) : Ky2 B w0 Q P h g v F1 F2 (bk r (cs.set j u) ty :: rest) (w.setCell ⟨r, j, none⟩ u) := by
  obtain ⟨l1, l2, h1, h2, h3⟩ := k
  refine ⟨l1, l2, h1, h2, ?_⟩
  rw [← List.append_assoc] at h3 ⊢
  exact All.setBk _ h3 j u
theorem Ky2.drop {o : Ob} (k : Ky2 B w0 Q P h g v F1 F2 (o :: rest) w) : Ky2 B w0 Q P h g v F1 F2 rest w := by
  obtain ⟨l1, l2, h1, h2, h3⟩ := k
  exact ⟨l1, l2, h1, h2, (h3.perm (pmC _ _ _ _).symm).tail⟩
/-! ### what each key does -/
theorem kf_back : keyF ar F sBack = F.del false := by unfold keyF edK; rw [if_neg (by decide), if_neg (by decide), if_pos rfl]
theorem kf_del : keyF ar F sDel = F.del true := by unfold keyF edK; rw [if_neg (by decide), if_neg (by decide), if_neg (by decide), if_pos rfl]
theorem kf_undo : keyF ar F sUndo = F.back := by unfold keyF edK; rw [if_neg (by decide), if_neg (by decide), if_neg (by decide), if_neg (by decide), if_pos rfl]
theorem kf_redo : keyF ar F sRedo = F.forth := by unfold keyF edK; rw [if_neg (by decide), if_neg (by decide), if_neg (by decide), if_neg (by decide), if_neg (by decide), if_pos rfl]
theorem ed_ins {key : List UInt8} (h0 : key ≠ sBack) (h1 : key ≠ sDel) (h2 : key ≠ sUndo) (h3 : key ≠ sRedo) (h4 : Lib.validD key = true) (h5 : nL key = 1) : edK ar F key = F.ins (cleanL ar key) := by
  unfold edK; rw [if_neg h0, if_neg h1, if_neg h2, if_neg h3, if_pos ⟨h4, h5⟩]
theorem kf_ins {key : List UInt8} (hm : ¬ isMv key) (he : key ≠ sEnter) (h0 : key ≠ sBack) (h1 : key ≠ sDel) (h2 : key ≠ sUndo) (h3 : key ≠ sRedo) (h4 : Lib.validD key = true) (h5 : nL key = 1) : keyF ar F key = F.ins (cleanL ar key) := by
  unfold keyF; rw [if_neg hm, if_neg he]; exact ed_ins h0 h1 h2 h3 h4 h5
theorem v_a : Lib.validD [97] = true ∧ nL [97] = 1 := ⟨by kernel_rfl, by kernel_rfl⟩
theorem v_b : Lib.validD [98] = true ∧ nL [98] = 1 := ⟨by kernel_rfl, by kernel_rfl⟩
theorem v_e : Lib.validD [195, 169] = true ∧ nL [195, 169] = 1 := ⟨by kernel_rfl, by kernel_rfl⟩
theorem v_s : Lib.validD [32] = true ∧ nL [32] = 1 := ⟨by kernel_rfl, by kernel_rfl⟩
theorem v_n : Lib.validD [10] = true ∧ nL [10] = 1 := ⟨by kernel_rfl, by kernel_rfl⟩
theorem v_ab : nL [97, 98] = 2 := by kernel_rfl
theorem kf_enter1 : keyF true F sEnter = F.ins (cleanL true [10]) := by
  unfold keyF; rw [if_neg (by decide), if_pos rfl, if_pos rfl]
  exact ed_ins (by decide) (by decide) (by decide) (by decide) v_n.1 v_n.2
theorem kf_enter0 : keyF false F sEnter = F := by unfold keyF; rw [if_neg (by decide), if_pos rfl, if_neg (by decide)]
theorem kf_ab : keyF ar F [97, 98] = F := by
  unfold keyF edK
  rw [if_neg (by decide), if_neg (by decide), if_neg (by decide), if_neg (by decide), if_neg (by decide), if_neg (by decide), if_neg (fun q => by rw [v_ab] at q; omega)]
theorem sel_eq (F : FT) (a b c e : Int) (h1 : min (max a 0) (nL F.val : Int) = min (max c 0) (nL F.val : Int)) (h2 : min (max b 0) (nL F.val : Int) = min (max e 0) (nL F.val : Int)) : F.sel a b = F.sel c e := by
  unfold FT.sel; rw [h1, h2]
theorem kf_left1 (h1 : F.st = F.en) (h2 : 0 < F.st) : keyF ar F sLeft = F.sel ((F.st : Int) - 1) ((F.st : Int) - 1) := by
  unfold keyF movTo
  rw [if_pos (.inl rfl), if_neg (by decide), if_neg (fun q => by omega), if_neg (fun q => by omega), if_pos rfl]
theorem kf_left0 (hle : F.st ≤ F.en) (h : ¬ (F.st = F.en ∧ 0 < F.st)) : keyF ar F sLeft = F.sel (F.st : Int) (F.st : Int) := by
  unfold keyF movTo
  rw [if_pos (.inl rfl), if_neg (by decide)]
  by_cases e : F.st < F.en
  · rw [if_pos ⟨rfl, e⟩]
  · rw [if_neg (fun q => e q.2), if_neg (fun q => e q.2), if_pos rfl]
    have : F.st = 0 := by omega
    exact sel_eq _ _ _ _ _ (by rw [this]; omega) (by rw [this]; omega)
theorem kf_right1 (h1 : F.st = F.en) (h2 : F.st < nL F.val) : keyF ar F sRight = F.sel ((F.st : Int) + 1) ((F.st : Int) + 1) := by
  unfold keyF movTo
  rw [if_pos (.inr (.inl rfl)), if_neg (by decide), if_neg (fun q => by omega), if_neg (fun q => by omega), if_neg (by decide), if_pos rfl]
theorem kf_right0 (hle : F.st ≤ F.en) (hin : F.en ≤ nL F.val) (h : ¬ (F.st = F.en ∧ F.st < nL F.val)) : keyF ar F sRight = F.sel (F.en : Int) (F.en : Int) := by
  unfold keyF movTo
  rw [if_pos (.inr (.inl rfl)), if_neg (by decide), if_neg (fun q => absurd q.1 (by decide))]
  by_cases e : F.st < F.en
  · rw [if_pos ⟨rfl, e⟩]
  · rw [if_neg (fun q => e q.2), if_neg (by decide), if_pos rfl]
    exact sel_eq _ _ _ _ _ (by omega) (by omega)
theorem kf_home : keyF ar F sHome = F.sel 0 0 := by
  unfold keyF movTo
  rw [if_pos (.inr (.inr (.inl rfl))), if_neg (by decide), if_neg (fun q => absurd q.1 (by decide)), if_neg (fun q => absurd q.1 (by decide)), if_neg (by decide), if_neg (by decide)]
theorem kf_end : keyF ar F sEnd = F.sel (nL F.val : Int) (nL F.val : Int) := by
  unfold keyF movTo
  rw [if_pos (.inr (.inr (.inr rfl))), if_pos rfl]
theorem key_ag {N : Nat} {E : RE} (ha : Ag N F E) (key : List UInt8) (hk : key.length ≤ 20) : ∃ E', Ag (N + 80) (keyF ar F key) E' := by
  have hl := clean_len ar key
  have hl1 := clean_len ar [10]
  have hE : ∀ ky : List UInt8, ky.length ≤ 20 → ∃ E', Ag (N + 80) (edK ar F ky) E' := fun ky hky => by
    have hl := clean_len ar ky
    unfold edK
    split
    · exact ⟨_, (ha.del false).mono (by omega)⟩
    · split
      · exact ⟨_, (ha.del true).mono (by omega)⟩
      · split
        · exact ⟨_, ha.back.1.mono (by omega)⟩
        · split
          · exact ⟨_, ha.forth.1.mono (by omega)⟩
          · split
            · exact ⟨_, ha.ins (clean_vd ar ky) (by omega)⟩
            · exact ⟨_, ha.mono (by omega)⟩
  unfold keyF
  split
  · exact ⟨_, (ha.sel _ _).mono (by omega)⟩
  · split
    · split
      · exact hE [10] (by decide)
      · exact ⟨_, ha.mono (by omega)⟩
    · exact hE key hk
end
end Go.Proofs.YtacdbnhnhdlmpaaGreatDoor.W
end
