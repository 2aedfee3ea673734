/- strings.NewReplacer, and what a byteStringReplacer holds. -/
import Derived.Test.YtefijebbndnnjaaDoorOnce
import Derived.Test.YtefijebbndnnjaaDoorNames
set_option linter.unusedVariables false
set_option linter.unusedSimpArgs false
namespace Go.Proofs.YtefijebbndnnjaaDoor.W
open Go.RowKit

def strC (l : List UInt8) : Value := .string ⟨l.toArray⟩

set_option maxRecDepth 100000 in
set_option maxHeartbeats 2000000 in
theorem newRep_any (B A : Nat) (xs : List (List UInt8)) (w : World) (hx : xs.length % 2 = 0) (hp : 0 < xs.length) (hn : xs.length ≤ 8) (hA : ∀ j u, (xs.map strC)[j]? = some u → w.cell? ⟨A, j, none⟩ = some u) (hB : B ≤ w.heap.size) :
    Calls Tryd.prog 36 #[.slice (some ⟨A, 0, none⟩) xs.length xs.length] w fun e w' => ∃ r v, e = .returned (.pointer (some ⟨r, 0, none⟩)) ∧ B ≤ r ∧ Blk w' r [.int .u32 0, .int .i32 0, .int .u32 0, .nilIface, v] 77 ∧
      w'.ownsRow B 9 1 v xs.length (xs.map strC) ∧ Below B w w' := by
  obtain ⟨i0, hi, hz0, hz1, hz2⟩ := info_parts infoS
  have hmod : ¬ ((xs.length : Int) % 2 = 1) := by omega
  have hlen : (xs.map strC).length = xs.length * 1 := by simp
  have HN := Lib.hid (show ∀ j u, (xs.map strC)[j]? = some u → w.cell? ((⟨A, 0, none⟩ : Addr).add j) = some u from fun j u hj => by
    rw [show (⟨A, 0, none⟩ : Addr).add j = ⟨A, j, none⟩ by unfold Addr.add; split <;> simp_all]; exact hA j u hj)
  have h1 : ∀ u ∈ xs.map strC, u.oneCell' = true := by
    intro u hu; obtain ⟨x, _, rfl⟩ := List.mem_map.1 hu; rfl
  clear hA
  go_enter Tryd.func36, Tryd.ntmps36
  go_wp2_with (at_builtin; refine wpList_append_own _ rfl _ _ 29 rfl B 9 i0 _ 1 16 Tryd.underlying29 hi hz0 hz1 hz2 rfl (by decide) _ 0 [] rfl (World.ownsRow_nil _ _ _ _) _ xs.length xs.length (xs.map strC) rfl hlen HN.out h1 ?c1 ?c2 ?c3 ?_)
  case c1 => unfold maxLen; omega
  case c2 => omega
  case c3 => exact hB
  intro v' w2 hown hgr _
  have hB2 : Below B w w2 := (Below.refl B w).grown hgr hB (fun k hk => by simp [Value.ownBlock] at hk)
  obtain ⟨g, cap, hv, hlt⟩ : ∃ g cap, v' = .slice (some ⟨g, 0, none⟩) xs.length cap ∧ g < w2.heap.size := by
    rcases hown.2 with ⟨_, h⟩ | ⟨g, cap, cur, hv, _, hh, _⟩
    · omega
    · exact ⟨g, cap, hv, lt_of_block hh⟩
  have HO := Lib.hid (show ∀ o, (w2.alloc o).ownsRow B 9 1 v' xs.length (xs.map strC) from fun o => hown.alloc o)
  rw [hv] at HO
  clear hown hgr
  subst hv
  go_wp2_with fail
  go_ret
  exact ⟨_, _, rfl, Nat.le_trans hB hB2.size, Blk.new w2 [.int .u32 0, .int .i32 0, .int .u32 0, .nilIface, .slice (some ⟨g, 0, none⟩) xs.length cap] _, HO.out _, hB2.alloc (Nat.le_trans hB hB2.size) _⟩
end Go.Proofs.YtefijebbndnnjaaDoor.W
