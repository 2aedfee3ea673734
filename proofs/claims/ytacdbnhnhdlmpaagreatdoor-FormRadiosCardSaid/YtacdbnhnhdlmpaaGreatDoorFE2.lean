/- Texts joined: Ro RszP Salt. -/
import Derived.Test.YtacdbnhnhdlmpaaGreatDoorFE1
import Derived.ArgAppend
import Derived.Lib.ValidLaws
import Derived.Lib.RuneBytes
import Derived.Test.YtacdbnhnhdlmpaaGreatDoorRows
set_option maxRecDepth 100000
set_option maxHeartbeats 40000000
set_option linter.unusedVariables false
set_option linter.unusedSimpArgs false
section
namespace Go.Proofs.YtacdbnhnhdlmpaaGreatDoor.W
open Go.RowKit
def roF : Value → Nat → Prop
  | .slice (some a) _ (_ + 1), k => a.block = k
  | _, _ => False
def Ro (w : World) (e : TypeId) (size : Nat) (v : Value) (n : Nat) (xs : List Value) : Prop :=
  (n = 0 ∧ xs = [] ∧ ∃ a, v = .slice a 0 0) ∨
  ∃ g k c cap pre, v = .slice (some ⟨g, k * size, none⟩) n (c + 1) ∧ n ≤ c + 1 ∧ k + (c + 1) ≤ cap ∧ pre.length = k * size ∧ Own w e size (.slice (some ⟨g, 0, none⟩) (k + n) cap) (k + n) (pre ++ xs)
theorem Ro.kept {w w' : World} {e : TypeId} {size n : Nat} {v : Value} {xs : List Value} (h : Ro w e size v n xs) (k : ∀ g, roF v g → w'.heap[g]? = w.heap[g]?) : Ro w' e size v n xs := by
  rcases h with h | ⟨g, k0, c, cap, pre, rfl, h1, h2, h3, h4⟩
  · exact .inl h
  · exact .inr ⟨g, k0, c, cap, pre, rfl, h1, h2, h3, own_kept h4 (fun b hb => k b (by cases hb; rfl))⟩
theorem Ro.lt {w : World} {e : TypeId} {size n : Nat} {v : Value} {xs : List Value} (h : Ro w e size v n xs) {g : Nat} (hg : roF v g) : g < w.heap.size := by
  rcases h with ⟨_, _, a, rfl⟩ | ⟨g0, k0, c, cap, pre, rfl, h1, h2, h3, h4⟩
  · cases a <;> exact hg.elim
  · exact own_lt h4 (k := g) (by rw [← (show g0 = g from hg)]; rfl)
def ro (e : TypeId) (size : Nat) (v : Value) (n : Nat) (xs : List Value) : Ob :=
  ⟨fun w => Ro w e size v n xs, roF v, fun w h k hk => h.lt hk, fun w w' h k => h.kept k⟩
theorem Ro.len {w : World} {e : TypeId} {size n : Nat} {v : Value} {xs : List Value} (h : Ro w e size v n xs) : xs.length = n * size := by
  rcases h with ⟨rfl, rfl, _⟩ | ⟨g, k0, c, cap, pre, rfl, h1, h2, h3, h4⟩
  · simp
  · have := h4.1
    rw [List.length_append, h3, Nat.add_mul] at this
    omega
theorem Ro.shape {w : World} {e : TypeId} {size n : Nat} {v : Value} {xs : List Value} (h : Ro w e size v n xs) : ∃ a cap, v = .slice a n cap ∧ n ≤ cap := by
  rcases h with ⟨rfl, rfl, a, rfl⟩ | ⟨g, k0, c, cap, pre, rfl, h1, h2, h3, h4⟩
  · exact ⟨a, 0, rfl, Nat.le_refl _⟩
  · exact ⟨_, _, rfl, h1⟩
theorem Ro.at_ {w : World} {e : TypeId} {size n : Nat} {v : Value} {xs : List Value} (h : Ro w e size v n xs) (hn : 0 < n) : ∃ g o cap, v = .slice (some ⟨g, o, none⟩) n cap ∧ n ≤ cap ∧ ∀ j, j < n * size → w.cell? ⟨g, o + j, none⟩ = xs[j]? := by
  rcases h with ⟨rfl, rfl, _⟩ | ⟨g, k0, c, cap, pre, rfl, h1, h2, h3, h4⟩
  · omega
  · refine ⟨g, k0 * size, c + 1, rfl, h1, fun j hj => ?_⟩
    rw [h4.cellAt (k0 * size + j) (by rw [Nat.add_mul]; omega), List.getElem?_append_right (by omega), h3, Nat.add_sub_cancel_left]
theorem Ro.of {w : World} {e : TypeId} {size n : Nat} {v : Value} {xs : List Value} (h : Own w e size v n xs) : Ro w e size v n xs := by
  have hh := h
  rcases h.2 with ⟨rfl, rfl⟩ | ⟨g, cap, cur, rfl, _, _, hc, _⟩
  · exact .inl ⟨rfl, List.eq_nil_of_length_eq_zero (by rw [h.1]; omega), none, rfl⟩
  · cases cap with
    | zero =>
      obtain rfl : n = 0 := by omega
      exact .inl ⟨rfl, List.eq_nil_of_length_eq_zero (by rw [h.1]; omega), _, rfl⟩
    | succ c => exact .inr ⟨g, 0, c, c + 1, [], by simp, hc, by omega, by simp, by simpa using hh⟩
theorem roF_own {v : Value} {k : Nat} (h : roF v k) : v.ownBlock = some k := by
  unfold roF at h
  split at h
  · rw [← h]; rfl
  · exact h.elim
theorem Ro.nil (w : World) (e : TypeId) (size : Nat) : Ro w e size (.slice none 0 0) 0 [] := .inl ⟨rfl, rfl, none, rfl⟩
theorem Ro.cut {w : World} {e : TypeId} {size n : Nat} {a : Option Addr} {cap : Nat} {xs : List Value} (h : Ro w e size (.slice a n cap) n xs) {m : Nat} (hm : m ≤ n) : Ro w e size (.slice a m m) m (xs.take (m * size)) ∧ ∀ k, roF (.slice a m m) k → roF (.slice a n cap) k := by
  rcases h with ⟨rfl, rfl, b, hb⟩ | ⟨g, k0, c, cp, pre, hv, h1, h2, h3, h4⟩
  · cases hb
    obtain rfl : m = 0 := by omega
    exact ⟨.inl ⟨rfl, by simp, a, rfl⟩, fun k hk => by cases a <;> exact hk.elim⟩
  · cases hv
    cases m with
    | zero => exact ⟨.inl ⟨rfl, by simp, _, rfl⟩, fun k hk => hk.elim⟩
    | succ m =>
      refine ⟨.inr ⟨g, k0, m, cp, pre, rfl, by omega, by omega, h3, ?_⟩, fun k hk => hk⟩
      have := own_trunc h4 (show k0 + (m + 1) ≤ k0 + n by omega)
      rwa [Nat.add_mul, List.take_append, List.take_of_length_le (by rw [h3]; omega), h3, Nat.add_sub_cancel_left] at this
theorem Ro.drop {w : World} {e : TypeId} {size n g o cap : Nat} {xs : List Value} (h : Ro w e size (.slice (some ⟨g, o, none⟩) n cap) n xs) {m : Nat} (hm : m < n) : Ro w e size (.slice (some ⟨g, o + m * size, none⟩) (n - m) (cap - m)) (n - m) (xs.drop (m * size)) ∧ ∀ k, roF (.slice (some ⟨g, o + m * size, none⟩) (n - m) (cap - m)) k → roF (.slice (some ⟨g, o, none⟩) n cap) k := by
  rcases h with ⟨rfl, _⟩ | ⟨g', k0, c, cp, pre, hv, h1, h2, h3, h4⟩
  · omega
  · cases hv
    have hl := h4.1
    rw [List.length_append, h3, Nat.add_mul] at hl
    have hmul : m * size ≤ n * size := Nat.mul_le_mul_right _ (by omega)
    refine ⟨.inr ⟨g, k0 + m, c - m, cp, pre ++ xs.take (m * size), ?_, by omega, by omega, ?_, ?_⟩, fun k hk => ?_⟩
    · rw [Nat.add_mul, show c + 1 - m = c - m + 1 by omega]
    · rw [List.length_append, List.length_take, h3, Nat.add_mul, Nat.min_eq_left (by omega)]
    · rw [List.append_assoc, List.take_append_drop, show k0 + m + (n - m) = k0 + n by omega]
      exact h4
    · exact roF_own hk |> fun q => by cases q; rfl
theorem own_lowR {w : World} {B e sz n : Nat} {v : Value} {xs : List Value} (h : w.ownsRow B e sz v n xs) : Own w e sz v n xs := by
  obtain ⟨h1, h2⟩ := h
  refine ⟨h1, h2.imp id ?_⟩
  rintro ⟨g, cap, cur, rfl, _, rest⟩
  exact ⟨g, cap, cur, rfl, Nat.zero_le _, rest⟩
theorem run_append_ro {P : Program} {t ty e : TypeId} {size bytes : Nat} (hT : ET P t e size bytes) {w : World} {dv : Value} {n : Nat} {xs : List Value} (h : Ro w e size dv n xs)
    {ad : Addr} {m c : Nat} {ys : List Value} (hl : ys.length = m * size) (hs : ∀ j u, ys[j]? = some u → w.cell? (ad.add j) = some u) (h1 : ∀ u ∈ ys, u.oneCell' = true) (hm : 0 < m) (hlen : n + m ≤ 1000000000) (hby : bytes ≤ 1000) :
    ∃ v' w', (Builtin.append_ #[t, t] ty #[dv, .slice (some ad) m c]).run P w = .ok v' w' ∧ Ro w' e size v' (n + m) (xs ++ ys) ∧ Chg (roF dv) w w' ∧ (∀ k, roF v' k → roF dv k ∨ w.heap.size ≤ k) := by
  obtain ⟨i, z, hi, hz0, hz1, hz2, hz3⟩ := hT.info
  have hmul : (n + m) * bytes ≤ 1000000000 * 1000 := Nat.mul_le_mul hlen hby
  have hxl := h.len
  have fresh : ∀ {v' : Value} {w' : World}, w'.ownsRow w.heap.size e size v' (n + m) (xs ++ ys) → w.grownBy w' none → Ro w' e size v' (n + m) (xs ++ ys) ∧ Chg (roF dv) w w' := fun ho hg =>
    ⟨Ro.of (own_lowR ho), (Chg.refl _ _).grown hg (fun k hk => by cases hk)⟩
  rcases h with ⟨rfl, rfl, a, rfl⟩ | ⟨g, k0, c0, cap, pre, rfl, hn, hc, hp, hown⟩
  · cases a with
    | none =>
      obtain ⟨v', w', hr, h2, h3, _, h5⟩ := run_append_own_at (P := P) w 0 t ty e i z size bytes hT.under hi hz0 hz1 hz2 hz3 hT.pos (.slice none 0 0) 0 [] (World.ownsRow_nil w _ e size) ad m c ys hl hs h1 (by unfold maxLen; omega) (by omega) (Nat.zero_le _)
      refine ⟨v', w', hr, Ro.of h2, (Chg.refl _ _).grown h3 (fun k hk => by cases hk), fun k hk => .inr ?_⟩
      have := roF_own hk
      rcases h5 with h5 | h5
      · rw [h5] at this; cases this
      · rw [h5] at this; exact Nat.le_of_eq (Option.some.inj this)
    | some b =>
      obtain ⟨v', w', hr, h2, h3⟩ := run_append_arg_grows (P := P) w t ty e i z size bytes hT.under hi hz0 hz1 hz2 hz3 hT.pos b 0 0 [] (by simp) (by simp) ad m c ys hl hs (by omega) (by unfold maxLen; omega) (by omega)
      exact ⟨v', w', hr, (fresh h2 h3).1, (fresh h2 h3).2, fun k hk => .inr (h2.lt k (roF_own hk)).1⟩
  · have hcell : ∀ j u, xs[j]? = some u → w.cell? ((⟨g, k0 * size, none⟩ : Addr).add j) = some u := fun j u hj => by
      have hjl : j < n * size := by rw [← hxl]; exact (List.getElem?_eq_some_iff.1 hj).1
      rw [Go.WideShapes.add_plain, hown.cellAt (k0 * size + j) (by rw [Nat.add_mul]; omega), List.getElem?_append_right (by omega), hp, Nat.add_sub_cancel_left, hj]
    by_cases hroom : n + m ≤ c0 + 1
    · obtain ⟨cur, hcur, hcm, hcs, htk⟩ : ∃ cur, w.heap[g]? = some (.cells cur e (0, 0)) ∧ cap ≤ maxLen ∧ cur.size = cap * size ∧ cur.toList.take ((k0 + n) * size) = pre ++ xs := by
        rcases hown.2 with ⟨e, _⟩ | ⟨g', cap', cur, e, _, hgg, _, hcm, hcs, ht⟩
        · cases e
        · cases e; exact ⟨cur, hgg, hcm, hcs, ht⟩
      subst hz1
      have hpl := hown.1
      have hle : (k0 + n + m) * i.size ≤ cap * i.size := Nat.mul_le_mul_right _ (by omega)
      have hsum : (k0 + n + m) * i.size = k0 * i.size + n * i.size + m * i.size := by rw [Nat.add_mul, Nat.add_mul]
      have hsum2 : (k0 + n) * i.size = k0 * i.size + n * i.size := Nat.add_mul _ _ _
      have hex : ∀ o j, o = k0 * i.size + n * i.size → j < ys.length → (w.cell? ⟨g, o + j, none⟩).isSome = true ∧ w.frozen? ⟨g, o + j, none⟩ = false := fun o j ho hj => by
        refine ⟨?_, by simp [World.frozen?, hcur]⟩
        simp only [World.cell?, hcur]
        have hlt : o + j < cur.size := by rw [hcs]; omega
        simp [hlt]
      have r1 := run_append_room_cells (P := P) w t ty e i hT.under hi g (k0 * i.size) n (c0 + 1) ad m c ys hl hs h1 hroom (fun j hj => (hex _ j rfl hj).1) (fun j hj => (hex _ j rfl hj).2)
      have r2 := run_append_room_cells (P := P) w t ty e i hT.under hi g 0 (k0 + n) cap ad m c ys hl hs h1 (by omega) (fun j hj => (hex _ j (by rw [Nat.zero_add, hsum2]) hj).1) (fun j hj => (hex _ j (by rw [Nat.zero_add, hsum2]) hj).2)
      have r3 := run_append_room (P := P) w t ty e i hT.under hi g (k0 + n) cap cur hcur ad m c ys hl hs h1 (by omega) (by rw [hcs, hl]; omega)
      rw [r2, Nat.zero_add, hsum2] at r3
      have hw := (Result.ok.inj r3).2
      rw [hw] at r1
      refine ⟨_, _, r1, .inr ⟨g, k0, c0, cap, pre, rfl, hroom, hc, hp, ?_⟩, ?_, fun k hk => .inl hk⟩
      · have hlen2 : (pre ++ (xs ++ ys)).length = (k0 + (n + m)) * i.size := by rw [← List.append_assoc, List.length_append, hpl, hl, ← Nat.add_mul, Nat.add_assoc]
        refine ⟨hlen2, .inr ⟨g, cap, _, rfl, Nat.zero_le _, setRow_heap w g cur _ e _ hcur, by omega, hcm, ?_, ?_⟩⟩
        · simp only [List.size_toArray, List.length_append, List.length_take, List.length_drop, Array.length_toList]
          omega
        · rw [← hsum2, htk, ← hlen2, ← List.append_assoc]
          exact List.take_left
      · exact (Chg.refl _ _).grown (row := some g) ⟨rfl, rfl, rfl, by simp, fun k _ hk => setRow_other w g k _ (fun e => hk (by simp [e]))⟩ (fun k hk _ => by cases hk; rfl)
    · obtain ⟨v', w', hr, h2, h3⟩ := run_append_arg_grows (P := P) w t ty e i z size bytes hT.under hi hz0 hz1 hz2 hz3 hT.pos ⟨g, k0 * size, none⟩ n (c0 + 1) xs hxl hcell ad m c ys hl hs (by omega) (by unfold maxLen; omega) (by omega)
      exact ⟨v', w', hr, (fresh h2 h3).1, (fresh h2 h3).2, fun k hk => .inr (h2.lt k (roF_own hk)).1⟩
def szL (l : List UInt8) : Nat := if l = [] then 0 else if (Lib.decodeL l).1 = 65533 ∧ (Lib.decodeL l).2 = 1 then 0 else (Lib.decodeL l).2
def inN (n i b lo hi : Nat) : Bool := decide (i < n) && (decide (lo ≤ b) && decide (b ≤ hi))
def secN (n b0 b1 : Nat) : Bool := if b0 = 224 then inN n 1 b1 160 191 else if b0 = 237 then inN n 1 b1 128 159 else if b0 = 240 then inN n 1 b1 144 191 else if b0 = 244 then inN n 1 b1 128 143 else inN n 1 b1 128 191
def szN (n b0 b1 b2 b3 : Nat) : Nat :=
  if inN n 0 b0 0 127 = true then 1
  else if (inN n 0 b0 194 223 && inN n 1 b1 128 191) = true then 2
  else if (inN n 0 b0 224 239 && secN n b0 b1 && inN n 2 b2 128 191) = true then 3
  else if (inN n 0 b0 240 244 && secN n b0 b1 && (inN n 2 b2 128 191 && inN n 3 b3 128 191)) = true then 4
  else 0
theorem chk2 (n b1 b2 b3 lo hi : Nat) : Lib.checkN n b1 b2 b3 2 lo hi = if n < 2 ∨ b1 < lo ∨ hi < b1 then none else some 2 := by unfold Lib.checkN; rw [if_pos rfl]
theorem chk3 (n b1 b2 b3 lo hi : Nat) : Lib.checkN n b1 b2 b3 3 lo hi = if n < 3 ∨ b1 < lo ∨ hi < b1 ∨ b2 < 128 ∨ 191 < b2 then none else some 3 := by unfold Lib.checkN; rw [if_neg (by omega), if_pos rfl]
theorem chk4 (n b1 b2 b3 lo hi : Nat) : Lib.checkN n b1 b2 b3 4 lo hi = if n < 4 ∨ b1 < lo ∨ hi < b1 ∨ b2 < 128 ∨ 191 < b2 ∨ b3 < 128 ∨ 191 < b3 then none else some 4 := by unfold Lib.checkN; rw [if_neg (by omega), if_neg (by omega), if_pos rfl]
set_option maxHeartbeats 4000000 in
theorem szN_decode (n b0 b1 b2 b3 : Nat) (hn : 1 ≤ n) (h0 : b0 < 256) (h1 : b1 < 256) (h2 : b2 < 256) (h3 : b3 < 256) :
    szN n b0 b1 b2 b3 = if (Lib.decodeN n b0 b1 b2 b3).1 = 65533 ∧ (Lib.decodeN n b0 b1 b2 b3).2 = 1 then 0 else (Lib.decodeN n b0 b1 b2 b3).2 := by
  by_cases hlo : b0 < 128
  · have e : Lib.decodeN n b0 b1 b2 b3 = (b0, 1) := by unfold Lib.decodeN; rw [if_pos hlo]
    rw [e, if_neg (by simp; omega)]
    unfold szN inN
    rw [if_pos (by simp; omega)]
  have key : ∀ sz lo hi, Lib.firstT b0 % 8 = sz → Lib.accLo (Lib.firstT b0 / 16) = lo → Lib.accHi (Lib.firstT b0 / 16) = hi → szN n b0 b1 b2 b3 = (match Lib.checkN n b1 b2 b3 sz lo hi with | none => 0 | some k => k) →
      szN n b0 b1 b2 b3 = if (Lib.decodeN n b0 b1 b2 b3).1 = 65533 ∧ (Lib.decodeN n b0 b1 b2 b3).2 = 1 then 0 else (Lib.decodeN n b0 b1 b2 b3).2 := by
    intro sz lo hi e1 e2 e3 e
    rcases Lib.check_decode n b0 b1 b2 b3 hn (by omega) h0 h1 h2 h3 with ⟨hc, hd⟩ | ⟨k, hk, hc, hd⟩
    · rw [e1, e2, e3] at hc
      rw [e, hc, hd]
      rfl
    · rw [e1, e2, e3] at hc
      rw [e, hc, hd, if_neg (by omega)]
  by_cases c0 : b0 < 194
  · refine key 1 0 0 (by simp [Lib.firstT, hlo, c0]) (by simp [Lib.firstT, Lib.accLo, hlo, c0]) (by simp [Lib.firstT, Lib.accHi, hlo, c0]) ?_
    unfold szN inN secN Lib.checkN
    simp only [Bool.and_eq_true, decide_eq_true_eq]
    rw [if_neg (by omega), if_neg (by omega), if_neg (by omega), if_neg (by omega)]
    rfl
  by_cases c1 : b0 < 224
  · refine key 2 128 191 (by simp [Lib.firstT, hlo, c0, c1]) (by simp [Lib.firstT, Lib.accLo, hlo, c0, c1]) (by simp [Lib.firstT, Lib.accHi, hlo, c0, c1]) ?_
    rw [chk2]
    unfold szN inN secN
    simp only [Bool.and_eq_true, decide_eq_true_eq]
    rw [if_neg (by omega)]
    by_cases q : n < 2 ∨ b1 < 128 ∨ 191 < b1
    · rw [if_pos q, if_neg (by omega), if_neg (by omega), if_neg (by omega)]
    · rw [if_neg q, if_pos (by omega)]
  by_cases c2 : b0 = 224
  · refine key 3 160 191 (by rw [c2]; decide) (by rw [c2]; decide) (by rw [c2]; decide) ?_
    rw [chk3]
    unfold szN secN
    rw [if_pos c2]
    unfold inN
    simp only [Bool.and_eq_true, decide_eq_true_eq]
    rw [if_neg (by omega), if_neg (by omega)]
    by_cases q : n < 3 ∨ b1 < 160 ∨ 191 < b1 ∨ b2 < 128 ∨ 191 < b2
    · rw [if_pos q, if_neg (by omega), if_neg (by omega)]
    · rw [if_neg q, if_pos (by omega)]
  by_cases c3 : b0 < 237
  · refine key 3 128 191 (by simp [Lib.firstT, hlo, c0, c1, c2, c3]) (by simp [Lib.firstT, Lib.accLo, hlo, c0, c1, c2, c3]) (by simp [Lib.firstT, Lib.accHi, hlo, c0, c1, c2, c3]) ?_
    rw [chk3]
    unfold szN secN
    rw [if_neg (show ¬ b0 = 224 by omega), if_neg (show ¬ b0 = 237 by omega), if_neg (show ¬ b0 = 240 by omega), if_neg (show ¬ b0 = 244 by omega)]
    unfold inN
    simp only [Bool.and_eq_true, decide_eq_true_eq]
    rw [if_neg (by omega), if_neg (by omega)]
    by_cases q : n < 3 ∨ b1 < 128 ∨ 191 < b1 ∨ b2 < 128 ∨ 191 < b2
    · rw [if_pos q, if_neg (by omega), if_neg (by omega)]
    · rw [if_neg q, if_pos (by omega)]
  by_cases c4 : b0 = 237
  · refine key 3 128 159 (by rw [c4]; decide) (by rw [c4]; decide) (by rw [c4]; decide) ?_
    rw [chk3]
    unfold szN secN
    rw [if_neg (show ¬ b0 = 224 by omega), if_pos c4]
    unfold inN
    simp only [Bool.and_eq_true, decide_eq_true_eq]
    rw [if_neg (by omega), if_neg (by omega)]
    by_cases q : n < 3 ∨ b1 < 128 ∨ 159 < b1 ∨ b2 < 128 ∨ 191 < b2
    · rw [if_pos q, if_neg (by omega), if_neg (by omega)]
    · rw [if_neg q, if_pos (by omega)]
  by_cases c5 : b0 < 240
  · refine key 3 128 191 (by simp [Lib.firstT, hlo, c0, c1, c2, c3, c4, c5]) (by simp [Lib.firstT, Lib.accLo, hlo, c0, c1, c2, c3, c4, c5]) (by simp [Lib.firstT, Lib.accHi, hlo, c0, c1, c2, c3, c4, c5]) ?_
    rw [chk3]
    unfold szN secN
    rw [if_neg (show ¬ b0 = 224 by omega), if_neg (show ¬ b0 = 237 by omega), if_neg (show ¬ b0 = 240 by omega), if_neg (show ¬ b0 = 244 by omega)]
    unfold inN
    simp only [Bool.and_eq_true, decide_eq_true_eq]
    rw [if_neg (by omega), if_neg (by omega)]
    by_cases q : n < 3 ∨ b1 < 128 ∨ 191 < b1 ∨ b2 < 128 ∨ 191 < b2
    · rw [if_pos q, if_neg (by omega), if_neg (by omega)]
    · rw [if_neg q, if_pos (by omega)]
  by_cases c6 : b0 = 240
  · refine key 4 144 191 (by rw [c6]; decide) (by rw [c6]; decide) (by rw [c6]; decide) ?_
    rw [chk4]
    unfold szN secN
    rw [if_neg (show ¬ b0 = 224 by omega), if_neg (show ¬ b0 = 237 by omega), if_pos c6]
    unfold inN
    simp only [Bool.and_eq_true, decide_eq_true_eq]
    rw [if_neg (by omega), if_neg (by omega), if_neg (by omega)]
    by_cases q : n < 4 ∨ b1 < 144 ∨ 191 < b1 ∨ b2 < 128 ∨ 191 < b2 ∨ b3 < 128 ∨ 191 < b3
    · rw [if_pos q, if_neg (by omega)]
    · rw [if_neg q, if_pos (by omega)]
  by_cases c7 : b0 < 244
  · refine key 4 128 191 (by simp [Lib.firstT, hlo, c0, c1, c2, c3, c4, c5, c6, c7]) (by simp [Lib.firstT, Lib.accLo, hlo, c0, c1, c2, c3, c4, c5, c6, c7]) (by simp [Lib.firstT, Lib.accHi, hlo, c0, c1, c2, c3, c4, c5, c6, c7]) ?_
    rw [chk4]
    unfold szN secN
    rw [if_neg (show ¬ b0 = 224 by omega), if_neg (show ¬ b0 = 237 by omega), if_neg (show ¬ b0 = 240 by omega), if_neg (show ¬ b0 = 244 by omega)]
    unfold inN
    simp only [Bool.and_eq_true, decide_eq_true_eq]
    rw [if_neg (by omega), if_neg (by omega), if_neg (by omega)]
    by_cases q : n < 4 ∨ b1 < 128 ∨ 191 < b1 ∨ b2 < 128 ∨ 191 < b2 ∨ b3 < 128 ∨ 191 < b3
    · rw [if_pos q, if_neg (by omega)]
    · rw [if_neg q, if_pos (by omega)]
  by_cases c8 : b0 = 244
  · refine key 4 128 143 (by rw [c8]; decide) (by rw [c8]; decide) (by rw [c8]; decide) ?_
    rw [chk4]
    unfold szN secN
    rw [if_neg (show ¬ b0 = 224 by omega), if_neg (show ¬ b0 = 237 by omega), if_neg (show ¬ b0 = 240 by omega), if_pos c8]
    unfold inN
    simp only [Bool.and_eq_true, decide_eq_true_eq]
    rw [if_neg (by omega), if_neg (by omega), if_neg (by omega)]
    by_cases q : n < 4 ∨ b1 < 128 ∨ 143 < b1 ∨ b2 < 128 ∨ 191 < b2 ∨ b3 < 128 ∨ 191 < b3
    · rw [if_pos q, if_neg (by omega)]
    · rw [if_neg q, if_pos (by omega)]
  · rw [Lib.decodeN_bad n b0 b1 b2 b3 (.inr ⟨by omega, h0⟩), if_pos ⟨rfl, rfl⟩]
    unfold szN inN secN
    simp only [Bool.and_eq_true, decide_eq_true_eq]
    rw [if_neg (by omega), if_neg (by omega), if_neg (by omega), if_neg (by omega)]
theorem szL_N (l : List UInt8) (hne : l ≠ []) : szL l = szN l.length (l.getD 0 0).toNat (l.getD 1 0).toNat (l.getD 2 0).toNat (l.getD 3 0).toNat := by
  have hl : 0 < l.length := List.length_pos_iff.2 hne
  rw [szN_decode _ _ _ _ _ hl (l.getD 0 0).toNat_lt (l.getD 1 0).toNat_lt (l.getD 2 0).toNat_lt (l.getD 3 0).toNat_lt, ← Lib.decodeL_N]
  unfold szL
  rw [if_neg hne]
theorem szL_le (l : List UInt8) : szL l ≤ l.length := by
  unfold szL
  split
  · omega
  · split
    · omega
    · exact Lib.decodeL_le l (by assumption)
def rfixG : Nat → List UInt8 → List UInt8
  | 0, _ => []
  | f + 1, l => if l = [] then [] else if szL l = 0 then [239, 191, 189] ++ rfixG f (l.drop 1) else l.take (szL l) ++ rfixG f (l.drop (szL l))
def rfix (l : List UInt8) : List UInt8 := rfixG l.length l
theorem rfixG_fuel : ∀ (n m : Nat) (l : List UInt8), l.length ≤ n → l.length ≤ m → rfixG n l = rfixG m l
  | 0, m, l, hn, _ => by
    have : l = [] := List.eq_nil_of_length_eq_zero (by omega)
    subst this
    cases m <;> simp [rfixG]
  | n + 1, 0, l, _, hm => by
    have : l = [] := List.eq_nil_of_length_eq_zero (by omega)
    subst this
    simp [rfixG]
  | n + 1, m + 1, l, hn, hm => by
    unfold rfixG
    by_cases hne : l = []
    · simp [hne]
    · have hl : 0 < l.length := List.length_pos_iff.2 hne
      rw [if_neg hne, if_neg hne, rfixG_fuel n m (l.drop 1) (by rw [List.length_drop]; omega) (by rw [List.length_drop]; omega)]
      by_cases h0 : szL l = 0
      · rw [if_pos h0, if_pos h0]
      · rw [if_neg h0, if_neg h0, rfixG_fuel n m (l.drop (szL l)) (by rw [List.length_drop]; omega) (by rw [List.length_drop]; omega)]
theorem rfix_nil : rfix [] = [] := rfl
theorem rfix_step (l : List UInt8) (hne : l ≠ []) : rfix l = if szL l = 0 then [239, 191, 189] ++ rfix (l.drop 1) else l.take (szL l) ++ rfix (l.drop (szL l)) := by
  have hl : 0 < l.length := List.length_pos_iff.2 hne
  obtain ⟨n, hn⟩ : ∃ n, l.length = n + 1 := ⟨l.length - 1, by omega⟩
  show rfixG l.length l = _
  rw [hn]
  show (if l = [] then [] else _) = _
  rw [if_neg hne]
  by_cases h0 : szL l = 0
  · rw [if_pos h0, if_pos h0]
    unfold rfix
    rw [rfixG_fuel n (l.drop 1).length _ (by rw [List.length_drop]; omega) (Nat.le_refl _)]
  · rw [if_neg h0, if_neg h0]
    unfold rfix
    rw [rfixG_fuel n (l.drop (szL l)).length _ (by rw [List.length_drop]; omega) (Nat.le_refl _)]
theorem rfix_valid : ∀ (n : Nat) (l : List UInt8), l.length ≤ n → (Lib.validD l = true ↔ rfix l = l) ∧ l.length ≤ (rfix l).length
  | 0, l, h => by
    have : l = [] := List.eq_nil_of_length_eq_zero (by omega)
    subst this
    exact ⟨⟨fun _ => rfl, fun _ => rfl⟩, Nat.le_refl _⟩
  | n + 1, l, h => by
    by_cases hne : l = []
    · subst hne
      exact ⟨⟨fun _ => rfl, fun _ => rfl⟩, Nat.le_refl _⟩
    · have hl : 0 < l.length := List.length_pos_iff.2 hne
      have hw := Lib.decodeL_width l
      rw [Lib.validD_step l hne, rfix_step l hne]
      by_cases hb : (Lib.decodeL l).1 = 65533 ∧ (Lib.decodeL l).2 = 1
      · have e0 : szL l = 0 := by unfold szL; rw [if_neg hne, if_pos hb]
        have ih := rfix_valid n (l.drop 1) (by rw [List.length_drop]; omega)
        rw [if_pos hb, if_pos e0]
        have hlen : l.length < ([239, 191, 189] ++ rfix (l.drop 1)).length := by
          have := ih.2
          rw [List.length_drop] at this
          rw [List.length_append, List.length_cons, List.length_cons, List.length_cons, List.length_nil]
          omega
        refine ⟨⟨fun e => absurd e (by simp), fun e => ?_⟩, Nat.le_of_lt hlen⟩
        rw [e] at hlen
        omega
      · have e0 : szL l = (Lib.decodeL l).2 := by unfold szL; rw [if_neg hne, if_neg hb]
        have hle := Lib.decodeL_le l hne
        have ih := rfix_valid n (l.drop (szL l)) (by rw [List.length_drop]; omega)
        rw [if_neg hb, ← e0, if_neg (by omega), ih.1]
        refine ⟨⟨fun e => ?_, fun e => ?_⟩, ?_⟩
        · rw [e, List.take_append_drop]
        · have e2 : l.take (szL l) ++ rfix (l.drop (szL l)) = l.take (szL l) ++ l.drop (szL l) := e.trans (List.take_append_drop _ _).symm
          exact List.append_cancel_left e2
        · have := ih.2
          rw [List.length_append, List.length_take]
          rw [List.length_drop] at this
          omega
theorem rfix_iff (l : List UInt8) : Lib.validD l = true ↔ rfix l = l := (rfix_valid l.length l (Nat.le_refl _)).1
theorem rfix_len_ge (l : List UInt8) : l.length ≤ (rfix l).length := (rfix_valid l.length l (Nat.le_refl _)).2
theorem rfix_len (n : Nat) : ∀ (l : List UInt8), l.length ≤ n → (rfix l).length ≤ 3 * l.length := by
  induction n with
  | zero =>
    intro l h
    have : l = [] := List.eq_nil_of_length_eq_zero (by omega)
    subst this
    simp [rfix_nil]
  | succ n ih =>
    intro l h
    by_cases hne : l = []
    · subst hne; simp [rfix_nil]
    · have hl : 0 < l.length := List.length_pos_iff.2 hne
      have hsz := szL_le l
      rw [rfix_step l hne]
      split
      · have := ih (l.drop 1) (by rw [List.length_drop]; omega)
        rw [List.length_append, List.length_cons, List.length_cons, List.length_cons, List.length_nil]
        rw [List.length_drop] at this
        omega
      · have := ih (l.drop (szL l)) (by rw [List.length_drop]; omega)
        rw [List.length_append, List.length_take]
        rw [List.length_drop] at this
        omega
def bnd (n : Int) : Int := min (max n 1) 1000
theorem bnd_lo (n : Int) : 1 ≤ bnd n := by unfold bnd; omega
theorem bnd_hi (n : Int) : bnd n ≤ 1000 := by unfold bnd; omega
theorem bnd_a {n : Int} (h : n < 1) : bnd n = 1 := by unfold bnd; omega
theorem bnd_b {n : Int} (h2 : 1000 < n) : bnd n = 1000 := by unfold bnd; omega
theorem bnd_c {n : Int} (h : 1 ≤ n) (h2 : n ≤ 1000) : bnd n = n := by unfold bnd; omega
theorem ret_int {k : IntKind} {a b : Int} (h : a = b) : Ending.returned (.int k a) = .returned (.int k b) := by rw [h]
theorem norm_cells (b s : Int) (w : World) :
    Calls Tryz.prog 160 #[.agg #[.int .i64 b, .int .i64 s]] w fun e w' => e = .returned (.agg #[.int .i64 (bnd b), .int .i64 (bnd s)]) ∧ Below w.heap.size w w' := by
  go_enter Tryz.func160, Tryz.ntmps160
  go_wp2
  all_goals
    refine bodyPost_ret (v := .agg #[.int .i64 (bnd b), .int .i64 (bnd s)]) ?_ rfl ⟨rfl, ((Below.refl _ _).alloc (Nat.le_refl _) _).alloc (by simp) _⟩
    first
      | rw [bnd_a (n := b) ‹_›]
      | rw [bnd_b (n := b) ‹_›]
      | rw [bnd_c (n := b) ‹_› ‹_›]
    first
      | rw [bnd_a (n := s) ‹_›]
      | rw [bnd_b (n := s) ‹_›]
      | rw [bnd_c (n := s) ‹_› ‹_›]
    simp [results, Tryz.results160, go_sem]
def hdl (b s slot : Int) : Int := if slot < 0 ∨ 2147483647 < slot then 0 else bnd b + bnd s * slot
def idx (b s h : Int) : Int := if h < bnd b ∨ (h - bnd b) % bnd s ≠ 0 ∨ 2147483647 < (h - bnd b) / bnd s then -1 else (h - bnd b) / bnd s
theorem mul_small {a b : Int} (ha : 1 ≤ a) (ha' : a ≤ 1000) (hb : 0 ≤ b) (hb' : b ≤ 2147483647) : 0 ≤ a * b ∧ a * b ≤ 2147483647000 := by
  refine ⟨Int.mul_nonneg (by omega) hb, ?_⟩
  have h1 : a * b ≤ 1000 * b := Int.mul_le_mul_of_nonneg_right ha' hb
  omega
theorem handle_any (b s slot : Int) (w : World) :
    Calls Tryz.prog 141 #[.agg #[.int .i64 b, .int .i64 s], .int .i64 slot] w fun e w' => e = .returned (.int .i64 (hdl b s slot)) ∧ Below w.heap.size w w' := by
  by_cases h0 : slot < 0
  · have e0 : hdl b s slot = 0 := by unfold hdl; rw [if_pos (.inl h0)]
    rw [e0]
    go_enter Tryz.func141, Tryz.ntmps141
    go_wp2
    go_ret
    exact ⟨rfl, (Below.refl _ _).alloc (Nat.le_refl _) _⟩
  · by_cases h1 : 2147483647 < slot
    · have e0 : hdl b s slot = 0 := by unfold hdl; rw [if_pos (.inr h1)]
      rw [e0]
      go_enter Tryz.func141, Tryz.ntmps141
      go_wp2
      go_ret
      exact ⟨rfl, (Below.refl _ _).alloc (Nat.le_refl _) _⟩
    · have e0 : hdl b s slot = bnd b + bnd s * slot := by unfold hdl; rw [if_neg (by omega)]
      rw [e0]; clear e0
      have b1 := bnd_lo b
      have b2 := bnd_hi b
      have s1 := bnd_lo s
      have s2 := bnd_hi s
      have hm := mul_small s1 s2 (by omega) (by omega : slot ≤ 2147483647)
      obtain ⟨hm1, hm2⟩ := hm
      go_enter Tryz.func141, Tryz.ntmps141
      go_wp2_with (go_at_call 160; refine (norm_cells b s _).mono ?_; rintro e w1 ⟨rfl, hb1⟩)
      go_ret
      refine ⟨rfl, ?_⟩
      exact (bthen ((Below.refl _ _).alloc (Nat.le_refl _) _) hb1).alloc (by have := hb1.size; simp at this; omega) _
theorem idx_no {b s h : Int} (k : h < bnd b ∨ (h - bnd b) % bnd s ≠ 0 ∨ 2147483647 < (h - bnd b) / bnd s) : idx b s h = -1 := by
  unfold idx; rw [if_pos k]
theorem idx_yes {b s h : Int} (k1 : bnd b ≤ h) (k2 : (h - bnd b) % bnd s = 0) (k3 : (h - bnd b) / bnd s ≤ 2147483647) : idx b s h = (h - bnd b) / bnd s := by
  unfold idx; rw [if_neg]; rintro (h | h | h) <;> omega
theorem index_any (b s h : Int) (w : World) (h1 : -9223372036854775808 ≤ h) (h2 : h ≤ 9223372036854775807) :
    Calls Tryz.prog 164 #[.agg #[.int .i64 b, .int .i64 s], .int .i64 h] w fun e w' => e = .returned (.int .i64 (idx b s h)) ∧ Below w.heap.size w w' := by
  have b1 := bnd_lo b
  have b2 := bnd_hi b
  have s1 := bnd_lo s
  have s2 := bnd_hi s
  go_enter Tryz.func164, Tryz.ntmps164
  go_wp2_with (go_at_call 160; refine (norm_cells b s _).mono ?_; rintro e w1 ⟨rfl, hb1⟩)
  all_goals
    go_ret
    refine ⟨ret_int ?_, (bthen ((Below.refl _ _).alloc (Nat.le_refl _) _) hb1).alloc (by have := hb1.size; simp at this; omega) _⟩
    first
      | exact (idx_no (.inl (by omega))).symm
      | exact (idx_no (.inr (.inl (by assumption)))).symm
      | exact (idx_no (.inr (.inr (by omega)))).symm
      | exact (idx_yes (by omega) (by assumption) (by omega)).symm
end Go.Proofs.YtacdbnhnhdlmpaaGreatDoor.W
end
