/- Texts joined: MutA Cov Note Same. -/
import Derived.Test.YtfdofkokiaapoaaDoorGa12
import Derived.Test.YtfdofkokiaapoaaDoorGa13
import Derived.Test.YtfdofkokiaapoaaDoorGa14
section
/- The operations of a tree on a small document, as objects that lie apart. -/
namespace Go.Proofs.YtfdofkokiaapoaaDoor.W
open Go.RowKit
set_option linter.unusedVariables false
set_option linter.unusedSimpArgs false

/-- a record that tells of a node of the document -/
def Good (S : Tr) (N : Nat) (r : Rc) : Prop := (∃ i, i ≤ N ∧ r.target = S.hd i) ∧ (r.kind = 1 ∨ r.kind = 2 ∨ r.kind = 3 ∨ r.kind = 4)
/-- what an operation leaves -/
def OpR (B : Nat) (w0 : World) (R : Nat) (S : Tr) (sv fv : Value) (N : Nat) (l : List Ob) (e : Ending) (w' : World) : Prop :=
  ∃ S' K' d' v er rs, e = .returned (.tuple #[v, .int .i64 er]) ∧ Dc S' K' d' N ∧ S'.b = S.b ∧ S'.s = S.s ∧ (∀ r ∈ rs, Good S N r) ∧ rs.length ≤ 2 ∧ All B w0 (rl v rs :: trO R S' sv fv :: l) w'

theorem op_done {B : Nat} {w0 w w' : World} {R g : Nat} {S S' : Tr} {sv fv v : Value} {N : Nat} {l : List Ob} {K' d'} {er : Int} (h : All B w0 (trO R S sv fv :: l) w) (hD : Dc S' K' d' N) (hb : S'.b = S.b) (hs : S'.s = S.s) (hT' : TAt 0 R S' sv fv w') (hc : Chg (fun k => k = g) w w')
    (hsv : sv.ownBlock = some g) (hF : ∀ k, trF R S' sv fv k → trF R S sv fv k ∨ w.heap.size ≤ k) (rs : List Rc) (hrs : RcAt w' w.heap.size v (rs.map encR)) (hg : ∀ r ∈ rs, Good S N r) (hl : rs.length ≤ 2) : OpR B w0 R S sv fv N l (.returned (.tuple #[v, .int .i64 er])) w' := by
  refine ⟨S', K', d', v, er, rs, rfl, hD, hb, hs, hg, hl, ?_⟩
  have hrs' : w'.ownsRow w.heap.size 90 11 v rs.length (rows encR rs) := by
    have := hrs
    unfold RcAt at this
    rwa [rows_flat, List.length_map] at this
  refine h.stepNew (o' := trO R S' sv fv) hT' (own_low hrs' (Nat.zero_le _)) (hc.mono (fun i _ e => by subst e; exact .inr (.inl hsv))) hF (fun k hk => (hrs'.lt k hk).1) (fun k hk hk' => ?_)
  obtain ⟨cur, hcur⟩ := own_ty hrs' hk
  obtain ⟨cur', t, hc', ht⟩ := trF_ty hT' hk'
  rw [hcur] at hc'
  cases hc'
  exact ht rfl

theorem rec_enc (a b c d e f : Int) (n o : List UInt8) (x : Bool) (y z : Int) : recC a b c d e f n o x y z = encR ⟨a, b, c, d, e, f, n, o, x, y, z⟩ := rfl
theorem hd_le {S : Tr} {N i : Nat} (h : S.slots.length = N + 1) {n : Nd} (hi : S.at i = some n) : i ≤ N := by have := at_lt hi; omega

section
variable {B : Nat} {w0 w : World} {R : Nat} {S : Tr} {sv fv : Value} {N : Nat} {l : List Ob} {K : Nat → List Nat} {d : Nat → Nat}

theorem tr_sl (hD : Dc S K d N) (h : All B w0 (trO R S sv fv :: l) w) : ∃ g cap, sv = .slice (some ⟨g, 0, none⟩) S.slots.length cap :=
  slots_some (show TAt 0 R S sv fv w from h.head) (by rw [hD.len]; omega)

theorem op_nil (hD : Dc S K d N) (h : All B w0 (trO R S sv fv :: l) w) {w' : World} (hb : Below w.heap.size w w') (er : Int) : OpR B w0 R S sv fv N l (.returned (.tuple #[.slice none 0 0, .int .i64 er])) w' :=
  ⟨S, K, d, _, er, [], rfl, hD, rfl, rfl, by simp, by simp, (h.still hb).nil _ _⟩

theorem op_insert (hD : Dc S K d N) (h : All B w0 (trO R S sv fv :: l) w) (p c : Nat) (o : Option Nat) (np nc : Nd) (hp : S.at p = some np) (hc : S.at c = some nc) (ho : ∀ b, o = some b → b ∈ K p) :
    Calls Tryd.prog 25 #[.pointer (some ⟨R, 0, none⟩), .int .i64 (S.hd p), .int .i64 (S.hd c), .int .i64 (hO S o)] w (OpR B w0 R S sv fv N l) := by
  obtain ⟨g, cap, rfl⟩ := tr_sl hD h
  have hT : TAt 0 R S _ fv w := h.head
  cases hmay : mayB S K d p c np nc with
  | false =>
    refine (insert_no hT hD.lk p c o np nc hp hc (fun b hb => (hD.lk.kin p b (ho b hb)).2) hmay).mono ?_
    rintro e w' ⟨rfl, hb⟩
    exact op_nil hD h hb 10
  | true =>
    by_cases hdep : d p + hgt K (128 - d c) c ≤ 128
    · refine (insert_ok hT hD.lk p c o np nc hp hc ho hmay hdep).mono ?_
      rintro e w' ⟨S', K', v, l', hout, hL', rfl, hrc, hT', hC⟩
      cases hout with
      | det j h1 h2 h3 h4 h5 =>
        subst h5
        rw [h3.len] at hT'
        exact op_done h (hD.map _ (keeps_link _ _ _ _ _) h3.at_ h3.len h3.b h3.s h3.free h3.root hL') h3.b h3.s hT' hC rfl (fun k hk => .inl (trF_map _ (keeps_link _ _ _ _ _) h3.at_ k hk)) [⟨1, S.hd p, S.hd c, _, _, j, [], [], false, 0, 0⟩] hrc
          (by intro r hr; simp at hr; subst hr; exact ⟨⟨p, hd_le hD.len hp, rfl⟩, .inl rfl⟩) (by simp)
      | att q i j S1 o' h1 h2 h3 h4 h5 h6 h7 =>
        subst h7
        obtain ⟨nq, hnq⟩ := Option.isSome_iff_exists.1 (hD.lk.kin q c (List.mem_of_getElem? h1)).1
        rw [h5.len, h2.len] at hT'
        have hat : ∀ x, S'.at x = (S.at x).map (fun n => linkN S1 (cutK K q i p) p j c x (cutN S (K q) q i c x n)) := fun x => by
          rw [h5.at_, h2.at_]; cases S.at x <;> rfl
        have hk : Keeps (fun x n => linkN S1 (cutK K q i p) p j c x (cutN S (K q) q i c x n)) := fun _ _ => ⟨rfl, rfl, rfl, rfl⟩
        exact op_done h (hD.map _ hk hat (h5.len.trans h2.len) (h5.b.trans h2.b) (h5.s.trans h2.s) (h5.free.trans h2.free) (h5.root.trans h2.root) hL') (h5.b.trans h2.b) (h5.s.trans h2.s) hT' hC rfl (fun k hk' => .inl (trF_map _ hk hat k hk'))
          [⟨2, S.hd q, S.hd c, nc.prev, nc.next, i, [], [], false, 0, 0⟩, ⟨1, S.hd p, S.hd c, _, _, j, [], [], false, 0, 0⟩] hrc
          (by
            intro r hr
            simp at hr
            rcases hr with rfl | rfl
            · exact ⟨⟨q, hd_le hD.len hnq, rfl⟩, .inr (.inl rfl)⟩
            · exact ⟨⟨p, hd_le hD.len hp, rfl⟩, .inl rfl⟩) (by simp)
    · refine (insert_far hT hD.lk p c o np nc hp hc ho hmay (by omega)).mono ?_
      rintro e w' ⟨rfl, hb⟩
      exact op_nil hD h hb 5

theorem op_remove (hD : Dc S K d N) (h : All B w0 (trO R S sv fv :: l) w) (c : Nat) (nc : Nd) (hc : S.at c = some nc) (hc0 : c ≠ 0) :
    Calls Tryd.prog 31 #[.pointer (some ⟨R, 0, none⟩), .int .i64 (S.hd c)] w (OpR B w0 R S sv fv N l) := by
  obtain ⟨g, cap, rfl⟩ := tr_sl hD h
  have hT : TAt 0 R S _ fv w := h.head
  have hk1 : nc.kind ≠ 1 := by rcases hD.el c nc hc0 hc with e | e <;> omega
  by_cases hdt : ∃ q, c ∈ K q
  · obtain ⟨q, hq⟩ := hdt
    obtain ⟨i, hi⟩ := List.mem_iff_getElem?.1 hq
    obtain ⟨nq, hnq⟩ := Option.isSome_iff_exists.1 (hD.lk.kin q c hq).1
    refine (remove_kid hT hD.lk q i c nc hc hk1 hi).mono ?_
    rintro e w' ⟨S', v, h3, rfl, hrc, hT', hC⟩
    rw [h3.len] at hT'
    exact op_done h (hD.map _ (keeps_cut _ _ _ _ _) h3.at_ h3.len h3.b h3.s h3.free h3.root (hD.lk.cut' hi h3)) h3.b h3.s hT' hC rfl (fun k hk => .inl (trF_map _ (keeps_cut _ _ _ _ _) h3.at_ k hk)) [⟨2, S.hd q, S.hd c, nc.prev, nc.next, i, [], [], false, 0, 0⟩] hrc
      (by intro r hr; simp at hr; subst hr; exact ⟨⟨q, hd_le hD.len hnq, rfl⟩, .inr (.inl rfl)⟩) (by simp)
  · refine (remove_top hT hD.lk c nc hc hk1 (fun q hq => hdt ⟨q, hq⟩)).mono ?_
    rintro e w' ⟨rfl, hb⟩
    exact op_nil hD h hb 0

theorem trF_put {i : Nat} {n n' : Nd} (hi : S.at i = some n) {W : Nat} (hn : ∀ k, n'.av.ownBlock = some k → (n.av.ownBlock = some k ∧ (n'.attrs ≠ [] → n.attrs ≠ [])) ∨ W ≤ k) (k : Nat) (h : trF R (S.put i n') sv fv k) : trF R S sv fv k ∨ W ≤ k := by
  rcases h with h | h | h | ⟨x, m, hx, hne, hk⟩
  · exact .inl (.inl h)
  · exact .inl (.inr (.inl h))
  · exact .inl (.inr (.inr (.inl h)))
  · rw [at_put hi] at hx
    by_cases e : x = i
    · subst e
      rw [if_pos rfl] at hx
      cases hx
      rcases hn k hk with ⟨h1, h2⟩ | h1
      · exact .inl (.inr (.inr (.inr ⟨x, n, hi, h2 hne, h1⟩)))
      · exact .inr h1
    · rw [if_neg e] at hx
      exact .inl (.inr (.inr (.inr ⟨x, m, hx, hne, hk⟩)))

theorem op_set_out (hD : Dc S K d N) {g cap : Nat} (h : All B w0 (trO R S (.slice (some ⟨g, 0, none⟩) S.slots.length cap) fv :: l) w) (i : Nat) (n : Nd) (hi : S.at i = some n) (name : List UInt8) {S' : Tr} {v : Value} {er : Int} {l' : List (List Value)} {w' : World}
    (ho : SetOut w.heap.size S i n name S' v er l') (hrc : RcAt w' w.heap.size v l') (hT' : TAt 0 R S' (.slice (some ⟨g, 0, none⟩) S'.slots.length cap) fv w') (hC : Chg (fun k => k = g) w w') : OpR B w0 R S (.slice (some ⟨g, 0, none⟩) S.slots.length cap) fv N l (.returned (.tuple #[v, .int .i64 er])) w' := by
  cases ho with
  | no => exact op_done h hD rfl rfl hT' hC rfl (fun k hk => .inl hk) [] hrc (by simp) (by simp)
  | yes _ av la old had hl hfr =>
    have hlen : (S.put i { n with av := av, attrs := la }).slots.length = S.slots.length := put_len _ _ _
    rw [hlen] at hT'
    exact op_done h (hD.put (n' := { n with av := av, attrs := la }) hi rfl rfl rfl rfl rfl rfl hl (hD.sz i n hi).2) rfl rfl hT' hC rfl (fun k hk => trF_put (n' := { n with av := av, attrs := la }) hi (fun k hk => .inr (hfr k hk)) k hk) [⟨3, S.hd i, 0, 0, 0, 0, name, old, had, 0, 0⟩] hrc
      (by intro r hr; simp at hr; subst hr; exact ⟨⟨i, hd_le hD.len hi, rfl⟩, .inr (.inr (.inl rfl))⟩) (by simp)

theorem op_setAttr (hD : Dc S K d N) (h : All B w0 (trO R S sv fv :: l) w) (hT0 : Laid w) (i : Nat) (n : Nd) (hi : S.at i = some n) (hi0 : i ≠ 0) (name val : List UInt8) (hn : AName name) (hv : val.length ≤ 1000) :
    Calls Tryd.prog 32 #[.pointer (some ⟨R, 0, none⟩), .int .i64 (S.hd i), strV name, strV val] w (OpR B w0 R S sv fv N l) := by
  obtain ⟨g, cap, rfl⟩ := tr_sl hD h
  have hT : TAt 0 R S _ fv w := h.head
  rcases hD.el i n hi0 hi with hk | hk
  · refine (setAttr_el hT hD.lk i n hi hk (hD.sz i n hi).1 name val hn hv hT0).mono ?_
    rintro e w' ⟨S', v, er, l', ho, rfl, hrc, hT', hC⟩
    exact op_set_out hD h i n hi name ho hrc hT' hC
  · refine (setAttr_no hT hD.lk i n hi (by omega) _ _).mono ?_
    rintro e w' ⟨rfl, hb⟩
    exact op_nil hD h hb 10
theorem op_dropAttr (hD : Dc S K d N) (h : All B w0 (trO R S sv fv :: l) w) (i : Nat) (n : Nd) (hi : S.at i = some n) (hi0 : i ≠ 0) (name : List UInt8) :
    Calls Tryd.prog 33 #[.pointer (some ⟨R, 0, none⟩), .int .i64 (S.hd i), strV name] w (OpR B w0 R S sv fv N l) := by
  obtain ⟨g, cap, rfl⟩ := tr_sl hD h
  have hT : TAt 0 R S _ fv w := h.head
  rcases hD.el i n hi0 hi with hk | hk
  · refine (dropAttr_el hT hD.lk i n hi hk (hD.sz i n hi).1 name).mono ?_
    rintro e w' ⟨S', v, er, l', ho, rfl, hrc, hT', hC⟩
    exact op_set_out hD h i n hi name ho hrc hT' hC
  · refine (dropAttr_no hT hD.lk i n hi (by omega) _).mono ?_
    rintro e w' ⟨rfl, hb⟩
    exact op_nil hD h hb 10
theorem op_replace (hD : Dc S K d N) (h : All B w0 (trO R S sv fv :: l) w) (hT0 : Laid w) (i : Nat) (n : Nd) (hi : S.at i = some n) (hi0 : i ≠ 0) (ix : Int) (h0 : 0 ≤ ix) (h1 : ix ≤ 1000) (s : List UInt8) (hs : s.length ≤ 1000) :
    Calls Tryd.prog 34 #[.pointer (some ⟨R, 0, none⟩), .int .i64 (S.hd i), .int .i64 ix, .int .i64 2, strV s] w (OpR B w0 R S sv fv N l) := by
  obtain ⟨g, cap, rfl⟩ := tr_sl hD h
  have hT : TAt 0 R S _ fv w := h.head
  rcases hD.el i n hi0 hi with hk | hk
  · refine (replace_kind hT hD.lk i n hi (.inr hk) _ _ _).mono ?_
    rintro e w' ⟨rfl, hb⟩
    exact op_nil hD h hb 10
  · refine (replace_text hT hD.lk i n hi hk (hD.sz i n hi).2 ix h0 h1 s hs hT0).mono ?_
    rintro e w' ⟨S', v, er, l', ho, rfl, hrc, hT', hC⟩
    cases ho with
    | no => exact op_done h hD rfl rfl hT' hC rfl (fun k hk => .inl hk) [] hrc (by simp) (by simp)
    | yes _ dat ix cnt sz hl =>
      have hlen : (S.put i { n with data := dat }).slots.length = S.slots.length := put_len _ _ _
      rw [hlen] at hT'
      exact op_done h (hD.put (n' := { n with data := dat }) hi rfl rfl rfl rfl rfl rfl (hD.sz i n hi).1 hl) rfl rfl hT' hC rfl (fun k hk => trF_put (n' := { n with data := dat }) hi (fun k hk => .inl ⟨hk, id⟩) k hk) [⟨4, S.hd i, 0, 0, 0, ix, [], n.data, false, cnt, sz⟩] hrc
        (by intro r hr; simp at hr; subst hr; exact ⟨⟨i, hd_le hD.len hi, rfl⟩, .inr (.inr (.inr rfl))⟩) (by simp)
end
end Go.Proofs.YtfdofkokiaapoaaDoor.W
end
section
/- covers at a watch of everything. -/
namespace Go.Proofs.YtfdofkokiaapoaaDoor.W
open Go.RowKit
set_option linter.unusedVariables false
set_option linter.unusedSimpArgs false

/-- a watch of everything -/
def full (t : Int) : Wt := ⟨t, true, true, true, true, true, [], .slice none 0 0⟩

set_option maxRecDepth 100000 in
set_option maxHeartbeats 4000000 in
theorem covers_full {R : Nat} {S : Tr} {sv fv : Value} {N : Nat} {K : Nat → List Nat} {d : Nat → Nat} {w : World} (hD : Dc S K d N) (h : TAt 0 R S sv fv w) (t : Int) (ht : ∃ i, i ≤ N ∧ t = S.hd i) (r : Rc) (hr : Good S N r) :
    Calls Tryd.prog 35 #[.agg #[.int .i64 t, .bool true, .bool true, .bool true, .bool true, .bool true, .slice none 0 0], .pointer (some ⟨R, 0, none⟩), .agg (encR r).toArray] w fun e w' => ∃ c : Bool, e = .returned (.bool c) ∧ (t = r.target → c = true) ∧ Below w.heap.size w w' := by
  obtain ⟨⟨j, hj, hjt⟩, hk⟩ := hr
  obtain ⟨i, hi, rfl⟩ := ht
  obtain ⟨ni, hni⟩ := Option.isSome_iff_exists.1 (hD.used i (by rw [hD.len]; omega))
  obtain ⟨nj, hnj⟩ := Option.isSome_iff_exists.1 (hD.used j (by rw [hD.len]; omega))
  obtain ⟨g, cap, rfl⟩ := slots_some h (by rw [hD.len]; omega)
  have HC := Lib.hid (fun wx (hb : Below w.heap.size w wx) => contains_any (h.below hb) hD.lk i j ni nj hni hnj)
  generalize contB S i (d j) (some j) = cb at *
  obtain ⟨kd, tg, nd, pr, nx, ix, nm, ol, hd, ct, sz⟩ := r
  simp only at hjt hk
  subst hjt
  have hbx : Below w.heap.size w ((w.alloc (.cells #[.int .i64 (S.hd i), .bool true, .bool true, .bool true, .bool true, .bool true, .slice none 0 0] 44)).alloc (.cells #[.int .i64 kd, .int .i64 (S.hd j), .int .i64 nd, .int .i64 pr, .int .i64 nx, .int .i64 ix, .string ⟨nm.toArray⟩, .string ⟨ol.toArray⟩, .bool hd, .int .i64 ct, .int .i64 sz] 90)) :=
    ((Below.refl _ _).alloc (Nat.le_refl _) _).alloc (by simp) _
  clear h hD hni hnj
  simp only [encR, recC, strV]
  generalize S.hd i = hi' at *
  generalize S.hd j = hj' at *
  by_cases he : hi' = hj'
  · subst he
    rcases hk with rfl | rfl | rfl | rfl
    all_goals
      go_enter Tryd.func35, Tryd.ntmps35
      go_wp2_with fail
      go_ret
      exact ⟨true, rfl, fun _ => rfl, hbx⟩
  · have e1 : (hj' == hi') = false := by simpa using fun e => he e.symm
    rcases hk with rfl | rfl | rfl | rfl
    all_goals
      go_enter Tryd.func35, Tryd.ntmps35
      go_wp2_with fail
      refine (HC.out _ hbx).mono ?_
      rintro e w2 ⟨rfl, hb2⟩
      have hc0 := (bcell hb2).1
      cases cb
      · go_wp2_with fail
        go_ret
        exact ⟨false, rfl, fun e => absurd e he, hbx.trans (hb2.mono hbx.size)⟩
      · skip
        go_wp2_with fail
        go_ret
        exact ⟨true, rfl, fun _ => rfl, hbx.trans (hb2.mono hbx.size)⟩
end Go.Proofs.YtfdofkokiaapoaaDoor.W
end
section
/- Note, where the one observer watches everything. -/
namespace Go.Proofs.YtfdofkokiaapoaaDoor.W
open Go.RowKit
set_option linter.unusedVariables false
set_option linter.unusedSimpArgs false

/-- the objects, as long as Note runs -/
def NtO (g zg zc : Nat) (nx : Int) (z : Ov) (a b : Value) (R : Nat) (S : Tr) (sv fv v : Value) (rs : List Rc) (l : List Ob) : List Ob :=
  stM g (.slice (some ⟨zg, 0, none⟩) 1 zc) nx [(z, a, b)] ++ (trO R S sv fv :: rl v rs :: l)
def Ov.noted (z : Ov) (l : List Rc) : Ov := { z with rs := z.rs ++ l }
def NtR (B : Nat) (w0 : World) (g zg zc : Nat) (nx : Int) (z : Ov) (a : Value) (R : Nat) (S : Tr) (sv fv v : Value) (rs : List Rc) (l : List Ob) (iv : Value) (wr : World) : Prop :=
  ∃ (m : Nat) (b : Value), m ≤ rs.length ∧ iv = .int .i64 (m : Int) ∧ All B w0 (NtO g zg zc nx (z.noted (rs.take m)) a b R S sv fv v rs l) wr
def Nt2 (B : Nat) (w0 : World) (g zg zc : Nat) (nx : Int) (z : Ov) (a b : Value) (R : Nat) (S : Tr) (sv fv v : Value) (rs : List Rc) (l : List Ob) (r : Rc) (r7 : Nat) (iv : Value) (wr : World) : Prop :=
  (iv = .int .i64 0 ∧ All B w0 (bk r7 (encR r) 90 :: NtO g zg zc nx z a b R S sv fv v rs l) wr) ∨
  (iv = .int .i64 1 ∧ ∃ b', All B w0 (bk r7 (encR r) 90 :: NtO g zg zc nx (z.noted [r]) a b' R S sv fv v rs l) wr)
def Nt3 (ws : List Wt) (r : Rc) (wS : World) (cv ov iv : Value) (wr : World) : Prop :=
  ∃ (j : Nat) (c : Bool), j ≤ ws.length ∧ iv = .int .i64 (j : Int) ∧ cv = .bool c ∧ ov = .bool c ∧ (∀ i x, i < j → ws[i]? = some x → x.target = r.target → c = true) ∧ Below wS.heap.size wS wr

set_option maxRecDepth 100000 in
set_option maxHeartbeats 8000000 in
theorem note_one {B : Nat} {w0 w : World} {g zg zc : Nat} {nx : Int} {z : Ov} {a b : Value} {R : Nat} {S : Tr} {sv fv v : Value} {N : Nat} {K : Nat → List Nat} {d : Nat → Nat} {rs : List Rc} {l : List Ob} (hD : Dc S K d N) (h : All B w0 (NtO g zg zc nx z a b R S sv fv v rs l) w)
    (hgood : ∀ r ∈ rs, Good S N r) (hws : ∀ x ∈ z.ws, ∃ i, i ≤ N ∧ x = full (S.hd i)) (hcov : ∀ r ∈ rs, ∃ x ∈ z.ws, x.target = r.target) (hl1 : rs.length ≤ 1000) (hl2 : z.ws.length ≤ 100000) (hl3 : z.rs.length ≤ 100000) :
    Calls Tryd.prog 12 #[.pointer (some ⟨g, 0, none⟩), .pointer (some ⟨R, 0, none⟩), v] w fun e w' => ∃ b', e = .returned (.tuple #[]) ∧ All B w0 (NtO g zg zc nx (z.noted rs) a b' R S sv fv v rs l) w' := by
  have hv : Own w _ _ _ _ _ := h.P (rl v rs) (by simp [NtO])
  obtain ⟨va, vc, rfl⟩ := own_shape hv
  have H := Lib.hid h
  have HG := Lib.hid hgood
  have HW := Lib.hid hws
  have HCv := Lib.hid hcov
  have HD := Lib.hid hD
  clear h hv hgood hws hcov hD
  go_enter Tryd.func12, Tryd.ntmps12
  go_wp2_with fail
  go_loopw [17] (fun iv wr => NtR B w0 g zg zc nx z a R S sv fv (.slice va rs.length vc) rs l iv wr) (fun iv _ => rs.length - (intOf iv).toNat)
  case atStart => exact ⟨0, b, Nat.zero_le _, rfl, by simpa [Ov.noted] using H.out⟩
  case round =>
    obtain ⟨m, b1, hm, rfl, hA⟩ := hrel
    by_cases hml : m < rs.length
    · obtain ⟨r, hr⟩ : ∃ r, rs[m]? = some r := ⟨_, List.getElem?_eq_getElem hml⟩
      have hv : Own wr _ _ _ _ _ := hA.P (rl (.slice va rs.length vc) rs) (by simp [NtO])
      obtain ⟨vg, vc', he, _⟩ := own_some hv (by omega)
      simp only [Value.slice.injEq] at he
      obtain ⟨rfl, _, rfl⟩ := he
      have hq : ∀ j, j < 11 → wr.cell? ⟨vg, m * 11 + j, none⟩ = (encR r)[j]? := fun j hj => by
        rw [hv.cellAt (m * 11 + j) (by omega)]
        exact rows_at (enc := encR) encR_len rs m r hr j hj
      have q0 := hq 0 (by omega)
      have q1 := hq 1 (by omega)
      have q2 := hq 2 (by omega)
      have q3 := hq 3 (by omega)
      have q4 := hq 4 (by omega)
      have q5 := hq 5 (by omega)
      have q6 := hq 6 (by omega)
      have q7 := hq 7 (by omega)
      have q8 := hq 8 (by omega)
      have q9 := hq 9 (by omega)
      have q10 := hq 10 (by omega)
      have HGr := Lib.hid (HG.out r (List.mem_of_getElem? hr))
      have HCr := Lib.hid (HCv.out r (List.mem_of_getElem? hr))
      have HRr := Lib.hid hr
      have hnw := hA.newBkA wr.heap.size rfl (encR r) 90
      simp only [encR, recC, strV, List.getElem?_cons_zero, List.getElem?_cons_succ, Nat.add_zero] at q0 q1 q2 q3 q4 q5 q6 q7 q8 q9 q10
      have hst : Blk _ _ _ _ := (show All B w0 (bk wr.heap.size (encR r) 90 :: bk g [.slice (some ⟨zg, 0, none⟩) 1 zc, .slice none 0 0, .int .i64 nx] 33 :: _) _ from hnw).tail.head
      have g0 := hst.cell 0
      simp only [List.getElem?_cons_zero] at g0
      have HN := Lib.hid hnw
      clear hq hv hA hnw hr hst
      go_upto_region 3 with fail
      clear q0 q1 q2 q3 q4 q5 q6 q7 q8 q9 q10
      simp only [encR, recC, strV] at HN g0
      generalize hr7 : wr.heap.size = r7 at *
      have HN1 := Lib.hid HN.out
      generalize wr.alloc (.cells #[.int .i64 r.kind, .int .i64 r.target, .int .i64 r.node, .int .i64 r.prev, .int .i64 r.next, .int .i64 r.index, .string ⟨r.name.toArray⟩, .string ⟨r.old.toArray⟩, .bool r.had, .int .i64 r.count, .int .i64 r.size] 90) = w1 at *
      change Hid (All B w0 (bk r7 _ _ :: _) w1) at HN1
      have g1 : w1.cell? ⟨g, 0, none⟩ = some (.slice (some ⟨zg, 0, none⟩) 1 zc) := by
        have hst : Blk _ _ _ _ := (show All B w0 (_ :: bk g [.slice (some ⟨zg, 0, none⟩) 1 zc, .slice none 0 0, .int .i64 nx] 33 :: _) _ from HN1.out).tail.head
        exact hst.cell 0
      clear HN g0
      go_wp2_with fail
      go_loopw [26] (fun iv wr2 => Nt2 B w0 g zg zc nx (z.noted (rs.take m)) a b1 R S sv fv (.slice (some ⟨vg, 0, none⟩) rs.length vc) rs l r r7 iv wr2) (fun iv _ => 2 - (intOf iv).toNat)
      case atStart => exact .inl ⟨rfl, HN1.out⟩
      case round =>
        rcases hrel with ⟨rfl, hA⟩ | ⟨rfl, b2, hA⟩
        · have hA' : All B w0 (bk r7 (encR r) 90 :: bk g [.slice (some ⟨zg, 0, none⟩) 1 zc, .slice none 0 0, .int .i64 nx] 33 :: sl 79 4 (.slice (some ⟨zg, 0, none⟩) 1 zc) 1 (encO (z.noted (rs.take m), a, b1)) :: wl a z.ws :: rl b1 (z.noted (rs.take m)).rs :: trO R S sv fv :: rl (.slice (some ⟨vg, 0, none⟩) rs.length vc) rs :: l) _ := hA
          have k7 : Blk _ _ _ _ := hA'.head
          have hst : Blk _ _ _ _ := hA'.tail.head
          have g2 := hst.cell 0
          have hob : Own _ _ _ _ _ _ := hA'.tail.tail.head
          have o2 := hob.cellAt 2 (by omega)
          simp only [encO, List.getElem?_cons_zero, List.getElem?_cons_succ] at g2 o2
          have hwl := hA'.tail.tail.tail.head
          have hwo : Own _ 44 7 a z.ws.length (rows encW z.ws) := hwl.1
          obtain ⟨aa, ac, rfl⟩ := own_shape hwo
          have hT : TAt 0 R S sv fv _ := hA'.tail.tail.tail.tail.tail.head
          have HT := Lib.hid hT
          have HK7 := Lib.hid k7
          have HWo := Lib.hid hwo
          have HA := Lib.hid hA'
          clear hA hA' k7 hst hob hwl hwo hT
          generalize wr = w2s at *
          go_wp2_with fail
          go_loopw [10, 11, 40] (fun cv ov iv wr3 => Nt3 z.ws r w2s cv ov iv wr3) (fun _ _ iv _ => z.ws.length - (intOf iv).toNat)
          case atStart => exact ⟨0, false, Nat.zero_le _, rfl, rfl, rfl, fun i x hi => absurd hi (Nat.not_lt_zero i), Below.refl _ _⟩
          case round =>
            obtain ⟨j, c, hj, rfl, rfl, rfl, hcj, hB⟩ := hrel
            have HCj := Lib.hid hcj
            clear hcj
            by_cases hjl : j < z.ws.length
            · obtain ⟨x, hx⟩ : ∃ x, z.ws[j]? = some x := ⟨_, List.getElem?_eq_getElem hjl⟩
              obtain ⟨ti, hti, hxf⟩ := HW.out x (List.mem_of_getElem? hx)
              have hO := own_below HWo.out hB
              obtain ⟨ag, ac', he, _⟩ := own_some hO (by omega)
              simp only [Value.slice.injEq] at he
              obtain ⟨rfl, _, rfl⟩ := he
              have hq : ∀ j', j' < 7 → wr.cell? ⟨ag, j * 7 + j', none⟩ = (encW x)[j']? := fun j' hj' => by
                rw [hO.cellAt (j * 7 + j') (by omega)]
                exact rows_at (enc := encW) encW_len z.ws j x hx j' hj'
              have q0 := hq 0 (by omega)
              have q1 := hq 1 (by omega)
              have q2 := hq 2 (by omega)
              have q3 := hq 3 (by omega)
              have q4 := hq 4 (by omega)
              have q5 := hq 5 (by omega)
              have q6 := hq 6 (by omega)
              rw [hxf] at q0 q1 q2 q3 q4 q5 q6
              simp only [encW, full, List.getElem?_cons_zero, List.getElem?_cons_succ, Nat.add_zero] at q0 q1 q2 q3 q4 q5 q6
              have HX := Lib.hid hx
              have HXf := Lib.hid hxf
              have k7 := HK7.out.below hB
              have p0 := k7.cell 0
              have p1 := k7.cell 1
              have p2 := k7.cell 2
              have p3 := k7.cell 3
              have p4 := k7.cell 4
              have p5 := k7.cell 5
              have p6 := k7.cell 6
              have p7 := k7.cell 7
              have p8 := k7.cell 8
              have p9 := k7.cell 9
              have p10 := k7.cell 10
              simp only [encR, recC, strV, List.getElem?_cons_zero, List.getElem?_cons_succ] at p0 p1 p2 p3 p4 p5 p6 p7 p8 p9 p10
              have hr7l := k7.lt
              have hba : Below w2s.heap.size w2s (wr.alloc (.cells #[.int .i64 (S.hd ti), .bool true, .bool true, .bool true, .bool true, .bool true, .slice none 0 0] 44)) := hB.alloc hB.size _
              have HCf := Lib.hid (covers_full HD.out (HT.out.below hba) (S.hd ti) ⟨ti, hti, rfl⟩ r HGr.out)
              simp only [encR, recC, strV] at HCf
              clear hO hx hq hxf k7
              go_wp2_with fail
              have k13 : Blk (wr.alloc (.cells #[.int .i64 (S.hd ti), .bool true, .bool true, .bool true, .bool true, .bool true, .slice none 0 0] 44)) wr.heap.size [.int .i64 (S.hd ti), .bool true, .bool true, .bool true, .bool true, .bool true, .slice none 0 0] 44 := Blk.new wr _ _
              have HK13 := Lib.hid k13
              clear k13 p0 p1 p2 p3 p4 p5 p6 p7 p8 p9 p10 q0 q1 q2 q3 q4 q5 q6
              refine HCf.out.mono ?_
              rintro e w5 ⟨cc, rfl, hcc, hb5⟩
              have hB5 := hba.trans (hb5.mono hba.size)
              have k5 := (HK13.out.below hb5).cell 5
              simp only [List.getElem?_cons_zero, List.getElem?_cons_succ] at k5
              have HB5 := Lib.hid hB5
              have Hcc := Lib.hid hcc
              clear HCf HK13 hba hb5 hB5 hcc
              cases cc
              · go_wp2_with fail
                refine ⟨⟨j + 1, c, by omega, by go_num, rfl, rfl, fun i y hi hy hyt => ?_, HB5.out⟩, by simp [intOf]; omega⟩
                by_cases e : i = j
                · subst e
                  rw [HX.out] at hy
                  cases hy
                  have := Hcc.out (by rw [HXf.out] at hyt; exact hyt)
                  cases this
                · exact HCj.out i y (by omega) hy hyt
              · cases c
                · go_wp2_with fail
                  exact ⟨⟨j + 1, true, by omega, by go_num, rfl, rfl, fun _ _ _ _ _ => rfl, HB5.out⟩, by simp [intOf]; omega⟩
                · go_wp2_with fail
                  exact ⟨⟨j + 1, true, by omega, by go_num, rfl, rfl, fun _ _ _ _ _ => rfl, HB5.out⟩, by simp [intOf]; omega⟩
            · obtain ⟨x, hx, hxt⟩ := HCr.out
              obtain ⟨jx, hjx⟩ := List.mem_iff_getElem?.1 hx
              have hc1 : c = true := HCj.out jx x (by have := (List.getElem?_eq_some_iff.1 hjx).1; omega) hjx hxt
              subst hc1
              have k7 := HK7.out.below hB
              have p0 := k7.cell 0
              have p1 := k7.cell 1
              have p2 := k7.cell 2
              have p3 := k7.cell 3
              have p4 := k7.cell 4
              have p5 := k7.cell 5
              have p6 := k7.cell 6
              have p7 := k7.cell 7
              have p8 := k7.cell 8
              have p9 := k7.cell 9
              have p10 := k7.cell 10
              simp only [encR, recC, strV, List.getElem?_cons_zero, List.getElem?_cons_succ] at p0 p1 p2 p3 p4 p5 p6 p7 p8 p9 p10
              clear hx hxt hjx k7 HCj
              go_upto_region 19 with fail
              have hA6 := (HA.out.still hB).alloc (.cells #[.int .i64 r.kind, .int .i64 r.target, .int .i64 r.node, .int .i64 r.prev, .int .i64 r.next, .int .i64 r.index, .string ⟨r.name.toArray⟩, .string ⟨r.old.toArray⟩, .bool r.had, .int .i64 r.count, .int .i64 r.size] 90)
              have k14 : Blk (wr.alloc (.cells #[.int .i64 r.kind, .int .i64 r.target, .int .i64 r.node, .int .i64 r.prev, .int .i64 r.next, .int .i64 r.index, .string ⟨r.name.toArray⟩, .string ⟨r.old.toArray⟩, .bool r.had, .int .i64 r.count, .int .i64 r.size] 90)) wr.heap.size [.int .i64 r.kind, .int .i64 r.target, .int .i64 r.node, .int .i64 r.prev, .int .i64 r.next, .int .i64 r.index, .string ⟨r.name.toArray⟩, .string ⟨r.old.toArray⟩, .bool r.had, .int .i64 r.count, .int .i64 r.size] 90 := Blk.new wr _ _
              clear p0 p1 p2 p3 p4 p5 p6 p7 p8 p9 p10
              generalize hr14 : wr.heap.size = r14 at *
              generalize wr.alloc (.cells #[.int .i64 r.kind, .int .i64 r.target, .int .i64 r.node, .int .i64 r.prev, .int .i64 r.next, .int .i64 r.index, .string ⟨r.name.toArray⟩, .string ⟨r.old.toArray⟩, .bool r.had, .int .i64 r.count, .int .i64 r.size] 90) = w6 at *
              have p0 := k14.cell 0
              have p1 := k14.cell 1
              have p2 := k14.cell 2
              have p3 := k14.cell 3
              have p4 := k14.cell 4
              have p5 := k14.cell 5
              have p6 := k14.cell 6
              have p7 := k14.cell 7
              have p8 := k14.cell 8
              have p9 := k14.cell 9
              have p10 := k14.cell 10
              simp only [List.getElem?_cons_zero, List.getElem?_cons_succ] at p0 p1 p2 p3 p4 p5 p6 p7 p8 p9 p10
              have hob : Own _ _ _ _ _ _ := hA6.tail.tail.head
              have o3 := hob.cellAt 3 (by omega)
              have hzl := own_lt hob (k := zg) rfl
              simp only [encO, List.getElem?_cons_zero, List.getElem?_cons_succ] at o3
              have hrl : Own _ _ _ _ _ _ := hA6.tail.tail.tail.tail.head
              obtain ⟨ba, bc, rfl⟩ := own_shape hrl
              have hzr : (z.noted (rs.take m)).rs.length ≤ 101000 := by simp [Ov.noted]; omega
              have ea : ∀ o, (w6.alloc o).cell? ⟨zg, 3, none⟩ = some (.slice ba (z.noted (rs.take m)).rs.length bc) := fun o => (World.cell?_alloc_lt _ _ _ hzl).trans o3
              have T1 := Lib.hid ((hA6.alloc (.cells #[.int .i64 r.kind, .int .i64 r.target, .int .i64 r.node, .int .i64 r.prev, .int .i64 r.next, .int .i64 r.index, .string ⟨r.name.toArray⟩, .string ⟨r.old.toArray⟩, .bool r.had, .int .i64 r.count, .int .i64 r.size] 90)).drew)
              have T2 := Lib.hid (own_at (w := (w6.alloc (.cells #[.int .i64 r.kind, .int .i64 r.target, .int .i64 r.node, .int .i64 r.prev, .int .i64 r.next, .int .i64 r.index, .string ⟨r.name.toArray⟩, .string ⟨r.old.toArray⟩, .bool r.had, .int .i64 r.count, .int .i64 r.size] 90)).drew) (g := w6.heap.size) (n := 1) (size := 11) (show Blk _ _ _ _ from Blk.new w6 [.int .i64 r.kind, .int .i64 r.target, .int .i64 r.node, .int .i64 r.prev, .int .i64 r.next, .int .i64 r.index, .string ⟨r.name.toArray⟩, .string ⟨r.old.toArray⟩, .bool r.had, .int .i64 r.count, .int .i64 r.size] 90) rfl (by omega))
              have T3 := Lib.hid (encR_one r)
              simp only [encR, recC, strV] at T3
              clear hA6 hob hrl k14
              go_region_law (refine step_append_all etR [_, _, _, _] T1.out T2.out T3.out (by omega) (by omega) (by rfl) _ _ (by rfl) (by rfl) (by rfl) ?_; intro v' w7 hA7; have ho : Own _ _ _ _ _ _ := hA7.tail.tail.tail.tail.head; obtain ⟨va, vc2, rfl⟩ := own_shape ho; have hr5 : Own _ _ _ _ _ _ := hA7.tail.tail.head; have d1 := hr5.cellAt 3 (by omega); simp only [encO, List.getElem?_cons_zero, List.getElem?_cons_succ] at d1; have df := hr5.frozenAt 3; have HB7 := Lib.hid hA7; clear hA7 ho hr5)
              all_goals
                go_wp2_with fail
                refine ⟨.inr ⟨rfl, .slice va ((z.noted (rs.take m)).rs.length + 1) vc2, ?_⟩, by simp [intOf]⟩
                have h9 := HB7.out.setSl [_, _] 3 (.slice va ((z.noted (rs.take m)).rs.length + 1) vc2)
                have e1 : rows encR ((z.noted (rs.take m)).noted [r]).rs = rows encR (z.noted (rs.take m)).rs ++ [.int .i64 r.kind, .int .i64 r.target, .int .i64 r.node, .int .i64 r.prev, .int .i64 r.next, .int .i64 r.index, .string ⟨r.name.toArray⟩, .string ⟨r.old.toArray⟩, .bool r.had, .int .i64 r.count, .int .i64 r.size] := rows_snoc _ _
                have e2 : ((z.noted (rs.take m)).noted [r]).rs.length = (z.noted (rs.take m)).rs.length + 1 := by simp [Ov.noted]; omega
                rw [← e1] at h9
                show All B w0 (_ :: bk g _ _ :: sl _ _ _ _ _ :: wl _ _ :: sl 90 11 _ ((z.noted (rs.take m)).noted [r]).rs.length _ :: _) _
                rw [e2]
                exact h9
        · clear g1
          go_wp2_with fail
          refine ⟨⟨m + 1, b2, by omega, by go_num, ?_⟩, by simp [intOf]; omega⟩
          have e : (z.noted (rs.take m)).noted [r] = z.noted (rs.take (m + 1)) := by
            unfold Ov.noted
            simp only []
            rw [List.take_add_one, HRr.out]
            simp
          rw [e] at hA
          exact hA.tail
    · obtain rfl : m = rs.length := by omega
      rw [List.take_length] at hA
      have HA := Lib.hid hA
      clear hA
      go_wp2_with fail
      go_end0
      exact ⟨b1, rfl, HA.out⟩
end Go.Proofs.YtfdofkokiaapoaaDoor.W
end
section
/- Same at two lists of equal records; Few. -/
namespace Go.Proofs.YtfdofkokiaapoaaDoor.W
open Go.RowKit
set_option linter.unusedVariables false
set_option linter.unusedSimpArgs false

theorem r_cells {w : World} {v : Value} {l : List Rc} (h : Own w 90 11 v l.length (rows encR l)) {k : Nat} {r : Rc} (hr : l[k]? = some r) : ∃ g c, v = .slice (some ⟨g, 0, none⟩) l.length c ∧ g < w.heap.size ∧
    (w.cell? ⟨g, k * 11, none⟩ = some (.int .i64 r.kind) ∧ w.cell? ⟨g, k * 11 + 1, none⟩ = some (.int .i64 r.target) ∧ w.cell? ⟨g, k * 11 + 2, none⟩ = some (.int .i64 r.node) ∧ w.cell? ⟨g, k * 11 + 3, none⟩ = some (.int .i64 r.prev) ∧ w.cell? ⟨g, k * 11 + 4, none⟩ = some (.int .i64 r.next) ∧ w.cell? ⟨g, k * 11 + 5, none⟩ = some (.int .i64 r.index) ∧
     w.cell? ⟨g, k * 11 + 6, none⟩ = some (.string ⟨r.name.toArray⟩) ∧ w.cell? ⟨g, k * 11 + 7, none⟩ = some (.string ⟨r.old.toArray⟩) ∧ w.cell? ⟨g, k * 11 + 8, none⟩ = some (.bool r.had) ∧ w.cell? ⟨g, k * 11 + 9, none⟩ = some (.int .i64 r.count) ∧ w.cell? ⟨g, k * 11 + 10, none⟩ = some (.int .i64 r.size)) := by
  have hk := (List.getElem?_eq_some_iff.1 hr).1
  obtain ⟨g, c, rfl, _⟩ := own_some h (by omega)
  have hq : ∀ j, j < 11 → w.cell? ⟨g, k * 11 + j, none⟩ = (encR r)[j]? := fun j hj => by
    rw [h.cellAt (k * 11 + j) (by omega)]
    exact rows_at (enc := encR) encR_len l k r hr j hj
  exact ⟨g, c, rfl, own_lt h (k := g) rfl, hq 0 (by omega), hq 1 (by omega), hq 2 (by omega), hq 3 (by omega), hq 4 (by omega), hq 5 (by omega), hq 6 (by omega), hq 7 (by omega), hq 8 (by omega), hq 9 (by omega), hq 10 (by omega)⟩

def SmR (w : World) (n : Nat) (iv : Value) (wr : World) : Prop := ∃ k m : Nat, k ≤ n ∧ iv = .int .i64 (k : Int) ∧ wr = w.drewN m
set_option maxRecDepth 100000 in
set_option maxHeartbeats 4000000 in
theorem same_any {w : World} {v1 v2 : Value} {L : List Rc} (h1 : Own w 90 11 v1 L.length (rows encR L)) (h2 : Own w 90 11 v2 L.length (rows encR L)) (hl : L.length ≤ 1000000) :
    Calls Tryd.prog 14 #[v1, v2] w fun e w' => e = .returned (.bool true) ∧ ∃ m, w' = w.drewN m := by
  obtain ⟨a1, c1, rfl⟩ := own_shape h1
  obtain ⟨a2, c2, rfl⟩ := own_shape h2
  have H1 := Lib.hid h1
  have H2 := Lib.hid h2
  clear h1 h2
  go_enter Tryd.func14, Tryd.ntmps14
  go_wp2_with fail
  go_loopw [13] (fun iv wr => SmR w L.length iv wr) (fun iv _ => L.length - (intOf iv).toNat)
  case atStart => exact ⟨0, 0, Nat.zero_le _, rfl, rfl⟩
  case round =>
    obtain ⟨k, m, hk, rfl, rfl⟩ := hrel
    by_cases hkl : k < L.length
    · obtain ⟨y, hy⟩ : ∃ y, L[k]? = some y := ⟨_, List.getElem?_eq_getElem hkl⟩
      obtain ⟨g1, k1, he, qlt, q0, q1, q2, q3, q4, q5, q6, q7, q8, q9, q10⟩ := r_cells H1.out hy
      simp only [Value.slice.injEq, true_and] at he
      obtain ⟨rfl, rfl⟩ := he
      obtain ⟨g2, k2, he, plt, p0, p1, p2, p3, p4, p5, p6, p7, p8, p9, p10⟩ := r_cells H2.out hy
      simp only [Value.slice.injEq, true_and] at he
      obtain ⟨rfl, rfl⟩ := he
      obtain ⟨y0, y1, y2, y3, y4, y5, y6, y7, y8, y9, y10⟩ := y
      simp only at q0 q1 q2 q3 q4 q5 q6 q7 q8 q9 q10 p0 p1 p2 p3 p4 p5 p6 p7 p8 p9 p10
      generalize (⟨y6.toArray⟩ : ByteArray) = s6 at *
      generalize (⟨y7.toArray⟩ : ByteArray) = s7 at *
      clear hy
      go_wp2_with fail
      go_quiet (fail)
      go_wp2_with fail
      go_roundw
      case rel => exact ⟨k + 1, _, by omega, by go_num, rfl⟩
      case measure => simp [intOf]; omega
    · go_wp2_with fail
      go_ret
      exact ⟨rfl, _, rfl⟩
end Go.Proofs.YtfdofkokiaapoaaDoor.W
end
