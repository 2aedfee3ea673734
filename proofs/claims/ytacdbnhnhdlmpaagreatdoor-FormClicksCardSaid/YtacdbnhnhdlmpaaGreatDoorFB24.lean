/- Texts joined: Grw Spw Ro FmQ FmO. -/
import Derived.Test.YtacdbnhnhdlmpaaGreatDoorFB23
import Derived.Test.YtacdbnhnhdlmpaaGreatDoorFB20
import Derived.Test.YtacdbnhnhdlmpaaGreatDoorFB21
import Derived.Test.YtacdbnhnhdlmpaaGreatDoorFB14
import Derived.Test.YtacdbnhnhdlmpaaGreatDoorFB18
import Derived.Test.YtacdbnhnhdlmpaaGreatDoorFB15
import Derived.LoopTactic
import Derived.RegionTactic
import Derived.Test.YtacdbnhnhdlmpaaGreatDoorFB1
import Derived.Test.YtacdbnhnhdlmpaaGreatDoorFB16
import Derived.ArgAppend
set_option maxRecDepth 100000
set_option maxHeartbeats 40000000
set_option linter.unusedVariables false
set_option linter.unusedSimpArgs false
section
namespace Go.Proofs.YtacdbnhnhdlmpaaGreatDoor.W
open Go.RowKit
def nI (S : Tr) (x : Nat) : Option (Int × List UInt8 × List Atr × List UInt8) := (S.at x).map fun n => (n.kind, n.name, n.attrs, n.data)
theorem nI_some {S : Tr} {x : Nat} {a : Int} {b : List UInt8} {c : List Atr} {e : List UInt8} (h : nI S x = some (a, b, c, e)) : ∃ n, S.at x = some n ∧ n.kind = a ∧ n.name = b ∧ n.attrs = c ∧ n.data = e := by
  unfold nI at h
  obtain ⟨n, h1, h2⟩ := Option.map_eq_some_iff.1 h
  simp only [Prod.mk.injEq] at h2
  exact ⟨n, h1, h2⟩
section
variable {S S' : Tr} {K : Nat → List Nat} {d : Nat → Nat} {c : Nat}
theorem not_sub (L : Lk S K d) {i : Nat} (hK : K i = []) : ∀ (m p : Nat), d p ≤ m → (S.at p).isSome = true → p ≠ i → subB S d i p = false
  | 0, p, hm, hp, hne => by
    rcases L.parO p with ⟨q, hq⟩ | ht
    · have := L.dep q p hq; omega
    · have := L.one p hp ht; omega
  | m + 1, p, hm, hp, hne => by
    have e : (i == p) = false := by simpa using fun e => hne e.symm
    rcases L.parO p with ⟨q, hq⟩ | ht
    · rw [sub_kid L hq, e, Bool.false_or]
      have hd := L.dep q p hq
      refine not_sub L hK m q (by omega) (L.kin q p hq).1 ?_
      rintro rfl
      rw [hK] at hq; cases hq
    · rw [sub_top L hp ht, e]
structure GMk (c : Nat) (S : Tr) (K : Nat → List Nat) (d : Nat → Nat) (s : Nat) (S' : Tr) (q : Int × List UInt8 × List Atr × List UInt8) : Prop where
  ok : TrOk c S' K (dAdd d s)
  fr : S'.free = []
  len : S'.slots.length = s + 1
  nI : ∀ x, nI S' x = if x = s then some q else nI S x
  hd : ∀ x, S'.hd x = S.hd x
  root : S'.root = S.root
  kid : K s = []
  det : ∀ q, s ∉ K q
theorem gmk_of (T : TrOk c S K d) (hf : S.free = []) (n : Nd) (h1 : n.parent = 0) (h2 : n.first = 0) (h3 : n.last = 0) (h4 : n.prev = 0) (h5 : n.next = 0) (hn : NdOk c n) (hk : n.kind ≠ 1) (hl : S.slots.length < 1000000) : GMk c S K d S.slots.length (S.add n) (n.kind, n.name, n.attrs, n.data) := by
  have ha : S.addI = S.slots.length := by unfold Tr.addI; rw [hf]; rfl
  have k := added_of T.fr T.frnd n
  rw [ha] at k
  have hno := k.no
  refine ⟨T.added k h1 h2 h3 h4 h5 hl hn hk, ?_, ?_, fun x => ?_, k.hd, k.root, T.lk.no_kids hno, fun q hq => ?_⟩
  · rw [List.eq_nil_iff_forall_not_mem]
    intro i hi
    have := (k.free i hi).1
    rw [hf] at this; cases this
  · have := k.len; omega
  · unfold nI
    rw [k.at_]
    split <;> rfl
  · have := (T.lk.kin q _ hq).2
    rw [hno] at this; cases this
def KIn (K : Nat → List Nat) (p i : Nat) (q : Nat) : List Nat := if q = p then K p ++ [i] else K q
structure GIn (c : Nat) (S : Tr) (K : Nat → List Nat) (d : Nat → Nat) (p i : Nat) (S' : Tr) : Prop where
  ok : TrOk c S' (KIn K p i) (fun x => if x = i then d p + 1 else d x)
  fr : S'.free = S.free
  len : S'.slots.length = S.slots.length
  nI : ∀ x, nI S' x = nI S x
  hd : ∀ x, S'.hd x = S.hd x
  root : S'.root = S.root
theorem may_of (L : Lk S K d) {p i : Nat} {np ni : Nd} (hp : S.at p = some np) (hi : S.at i = some ni) (hK : K i = []) (hne : p ≠ i) (hm : (np.kind = 2 ∧ ni.kind ≠ 1) ∨ (np.kind = 1 ∧ ni.kind = 2 ∧ K p = [])) : mayB S K d p i np ni = true := by
  have hs : contB S i (d p) (some p) = false := not_sub L hK (d p) p (Nat.le_refl _) (by rw [hp]; rfl) hne
  unfold mayB
  rw [hs, Bool.or_false]
  rcases hm with ⟨h1, h2⟩ | ⟨h1, h2, h3⟩
  · rw [if_neg (by simpa using h2), if_pos (by rw [h1]; rfl)]
  · rw [h1, h2, h3]; rfl
theorem gin_of (T : TrOk c S K d) {p i : Nat} {np ni : Nd} (hp : S.at p = some np) (hi : S.at i = some ni) (hK : K i = []) (hdet : ∀ q, i ∉ K q) (hne : p ≠ i) (hm : (np.kind = 2 ∧ ni.kind ≠ 1) ∨ (np.kind = 1 ∧ ni.kind = 2 ∧ K p = [])) (hd : d p + 1 ≤ 128)
    {ls : List (List Value)} {er : Int} (h : InsT S K d p i none np ni S' ls er) : er = 0 ∧ GIn c S K d p i S' := by
  have hmay := may_of T.lk hp hi hK hne hm
  have hd1 : d i = 1 := T.lk.one i (by rw [hi]; rfl) hdet
  cases h with
  | no h => rw [hmay] at h; cases h
  | other b h e hb => cases e
  | far h ho hd' => rw [hgt_leaf hK] at hd'; omega
  | ok S' K' ls h ho hd' hout hL =>
    refine ⟨rfl, ?_⟩
    have T' := T.ins hp hi hmay hout hL
    cases hout with
    | att q j t S1 o' h1 h2 h3 h4 h5 h6 h7 => exact absurd (List.mem_of_getElem? h1) (hdet q)
    | det j h1 h2 h3 h4 h5 =>
      obtain rfl : j = (K p).length := by
        rcases h2 with ⟨_, e⟩ | ⟨b, e, _⟩
        · exact e
        · cases e
      have hKe : K' = KIn K p i := by
        rw [h4]
        funext q
        unfold linkK KIn
        rw [List.take_length, List.drop_length]
      have hde : dIns S d p i = fun x => if x = i then d p + 1 else d x := by
        funext x
        unfold dIns
        by_cases hx : x = i
        · subst hx
          have hss : subB S d x x = true := by
            unfold subB
            rw [hd1]
            show (x == x || _) = true
            simp
          rw [if_pos rfl, hi, hss, hd1]
          show 1 - 1 + 1 + d p = d p + 1
          omega
        · rw [if_neg hx]
          cases e : S.at x with
          | none => rfl
          | some nx =>
            rw [not_sub T.lk hK (d x) x (Nat.le_refl _) (by rw [e]; rfl) hx]
            rfl
      rw [hKe, hde] at T'
      refine ⟨T', h3.free, h3.len, fun x => ?_, h3.hd, h3.root⟩
      unfold nI
      rw [h3.at_]
      cases S.at x <;> rfl
theorem newT_ok (b s : Int) : TrOk 1 (newT b s) (fun _ => []) (fun _ => 1) := by
  have hlk : Lk (newT b s) (fun _ => []) (fun _ => 1) := start_lk b s
  have hat : ∀ i n, (newT b s).at i = some n → i = 0 ∧ n = newN 1 [] := fun i n hi => by
    unfold Tr.at newT at hi
    cases i with
    | zero => simp at hi; exact ⟨rfl, hi.symm⟩
    | succ i => simp at hi
  have h0 : (newT b s).at 0 = some (newN 1 []) := rfl
  refine ⟨hlk, fun x n hx => ?_, fun p np _ => .inl rfl, fun i hi => (by cases hi), List.nodup_nil, rfl, ⟨_, h0, rfl⟩, fun x n hx hx0 => absurd (hat x n hx).1 hx0, fun p h => (by cases h)⟩
  rw [(hat x n hx).2]
  exact ⟨.inl rfl, fun e => (by cases e), fun e => (by rcases e with e | e <;> cases e), fun _ => ⟨rfl, rfl, rfl⟩, fun a ha => (by cases ha), List.nodup_nil, by simp [newN], by simp [newN], by simp [newN]⟩
end
section
variable {B : Nat} {w0 w : World} {R c : Nat} {S : Tr} {sv fv : Value} {K : Nat → List Nat} {d : Nat → Nat} {l : List Ob}
theorem make_all (h : All B w0 (trO R S sv fv :: l) w) (hT : Laid w) (T : TrOk c S K d) (hf : S.free = []) (hl : S.slots.length ≤ 1000) (kind : Int) (name data : List UInt8) (hn : name.length ≤ 1000) (hd : data.length ≤ 1000) (v : Value) (al : List Atr) (hv : Own w 85 2 v al.length (attrC al)) (hal : al.length ≤ 100) (has : ∀ a ∈ al, a.1.length ≤ 1000 ∧ a.2.length ≤ 1000) :
    Calls Tryz.prog 56 #[.pointer (some ⟨R, 0, none⟩), .int .i64 kind, .string ⟨name.toArray⟩, .string ⟨data.toArray⟩, v] w fun e w' => ∃ S' sv' fv' hh er, MakT w.heap.size S kind name data al S' hh er ∧ e = .returned (.tuple #[.int .i64 hh, .int .i64 er]) ∧ All B w0 (trO R S' sv' fv' :: l) w' := by
  have hA : TAt 0 R S sv fv w := h.head
  refine (mkT_any hA hT T.fr (by rw [hf]; simp) (by omega) kind name data hn hd v al hv hal has).mono ?_
  intro e w' hm
  obtain ⟨S', sv', fv', hh, er, h1, rfl, k⟩ := mak_out hm T.fr T.frnd
  exact ⟨S', sv', fv', hh, er, h1, rfl, h.step [] (o := trO R S sv fv) (o' := trO R S' sv' fv') k.at_ k.chg k.new⟩
theorem make_el (h : All B w0 (trO R S sv fv :: l) w) (hT : Laid w) (T : TrOk c S K d) (hf : S.free = []) (hl : S.slots.length ≤ 1000) (s : Nat) (hs : S.slots.length = s) (name : List UInt8) (hn : name.length ≤ 200) (v : Value) (al : List Atr) (hv : Own w 85 2 v al.length (attrC al)) (hal : al.length ≤ 64) (has : ∀ a ∈ al, a.1.length ≤ 200 ∧ a.2.length ≤ 1000 ∧ (fix a.2).length ≤ 200) (hb : (elmB name && namesB al) = true) :
    Calls Tryz.prog 56 #[.pointer (some ⟨R, 0, none⟩), .int .i64 2, .string ⟨name.toArray⟩, .string ⟨#[]⟩, v] w fun e w' => ∃ S' sv' fv', e = .returned (.tuple #[.int .i64 (S.hd s), .int .i64 0]) ∧ All B w0 (trO R S' sv' fv' :: l) w' ∧ GMk c S K d s S' (2, name, al.map (fun a => (a.1, fix a.2)), []) := by
  subst hs
  refine (make_all h hT T hf hl 2 name [] (by omega) (by simp) v al hv (by omega) (fun a ha => ⟨by have := has a ha; omega, (has a ha).2.1⟩)).mono ?_
  rintro e w' ⟨S', sv', fv', hh, er, hm, rfl, hA⟩
  cases hm with
  | kind a _ _ => exact absurd rfl a
  | arg _ a => rw [hb] at a; cases a
  | many _ _ a => omega
  | tx a => rcases a with a | a <;> cases a
  | el av _ _ _ hfr =>
    have ha : S.addI = S.slots.length := by unfold Tr.addI; rw [hf]; rfl
    rw [ha]
    rw [Bool.and_eq_true] at hb
    obtain ⟨h1, h2⟩ := namesB_parts hb.2
    refine ⟨_, sv', fv', rfl, hA, gmk_of T hf _ rfl rfl rfl rfl rfl ?_ (by show (2 : Int) ≠ 1; omega) (by omega)⟩
    refine ⟨.inr (.inl rfl), fun _ => ⟨rfl, hb.1⟩, fun e => (by rcases e with e | e <;> cases e), fun e => (by cases e), fun a hm => ?_, ?_, (by simpa [mkN] using hal), (by simp [mkN]), hn⟩
    · obtain ⟨b, hb', rfl⟩ := List.mem_map.1 hm
      have := has b hb'
      exact ⟨h1 b hb', fix_valid _, this.1, this.2.2⟩
    · have e : ((mkN 2 name av (al.map fun a => (a.1, fix a.2)) []).attrs.map (·.1)) = al.map (·.1) := by simp [mkN, List.map_map, Function.comp_def]
      rw [e]
      exact h2
theorem make_tx (h : All B w0 (trO R S sv fv :: l) w) (hT : Laid w) (T : TrOk c S K d) (hf : S.free = []) (hl : S.slots.length ≤ 1000) (s : Nat) (hs : S.slots.length = s) (data : List UInt8) (hd : data.length ≤ 1000) (hc : (fix data).length ≤ 200 * (c + 1)) :
    Calls Tryz.prog 56 #[.pointer (some ⟨R, 0, none⟩), .int .i64 3, .string ⟨#[]⟩, .string ⟨data.toArray⟩, .slice none 0 0] w fun e w' => ∃ S' sv' fv', e = .returned (.tuple #[.int .i64 (S.hd s), .int .i64 0]) ∧ All B w0 (trO R S' sv' fv' :: l) w' ∧ GMk c S K d s S' (3, [], [], fix data) := by
  subst hs
  refine (make_all h hT T hf hl 3 [] data (by simp) hd (.slice none 0 0) [] (World.ownsRow_nil _ _ _ _) (by simp) (fun a ha => by cases ha)).mono ?_
  rintro e w' ⟨S', sv', fv', hh, er, hm, rfl, hA⟩
  cases hm with
  | kind _ a _ => exact absurd rfl a
  | arg a _ => cases a
  | many a _ _ => cases a
  | el av a _ _ _ => cases a
  | tx a =>
    have ha : S.addI = S.slots.length := by unfold Tr.addI; rw [hf]; rfl
    rw [ha]
    refine ⟨_, sv', fv', rfl, hA, gmk_of T hf _ rfl rfl rfl rfl rfl ?_ (by show (3 : Int) ≠ 1; omega) (by omega)⟩
    refine ⟨.inr (.inr (.inl rfl)), fun e => (by cases e), fun _ => ⟨rfl, rfl, fix_valid _⟩, fun e => (by cases e), fun a hm => (by cases hm), List.nodup_nil, (by simp [mkN]), hc, (by simp [mkN])⟩
theorem ins_all (h : All B w0 (trO R S sv fv :: l) w) (T : TrOk c S K d) (p i : Nat) (np ni : Nd) (hp : S.at p = some np) (hi : S.at i = some ni) (hK : K i = []) (hdet : ∀ q, i ∉ K q) (hne : p ≠ i) (hm : (np.kind = 2 ∧ ni.kind ≠ 1) ∨ (np.kind = 1 ∧ ni.kind = 2 ∧ K p = [])) (hd : d p + 1 ≤ 128) :
    Calls Tryz.prog 57 #[.pointer (some ⟨R, 0, none⟩), .int .i64 (S.hd p), .int .i64 (S.hd i), .int .i64 0] w fun e w' => ∃ S' sv' fv' v, e = .returned (.tuple #[v, .int .i64 0]) ∧ All B w0 (trO R S' sv' fv' :: l) w' ∧ GIn c S K d p i S' := by
  have hA : TAt 0 R S sv fv w := h.head
  refine (tins_any hA T.lk p i none np ni hp hi (fun b e => by cases e)).mono ?_
  rintro e w' ⟨S', sv', fv', v, ls, er, hres, rfl, _, k, _⟩
  obtain ⟨rfl, hg⟩ := gin_of T hp hi hK hdet hne hm hd hres
  exact ⟨S', sv', fv', v, rfl, h.step [] (o := trO R S sv fv) (o' := trO R S' sv' fv') k.at_ k.chg k.new, hg⟩
end
def hdC (S : Tr) (l : List Nat) : List Value := l.map fun i => Value.int .i64 (S.hd i)
theorem hdC_app (S : Tr) (a b : List Nat) : hdC S a ++ hdC S b = hdC S (a ++ b) := by simp [hdC]
theorem hdC_one (S : Tr) (l : List Nat) : ∀ u ∈ hdC S l, u.oneCell' = true := by
  intro u hu
  obtain ⟨i, _, rfl⟩ := List.mem_map.1 hu
  rfl
def sliceN : Value → Nat
  | .slice _ n _ => n
  | _ => 0
theorem hO_none {S : Tr} : hO S none = 0 := rfl
theorem hO_some {S : Tr} {k : Nat} : hO S (some k) = S.hd k := rfl
section
variable {B R : Nat} {S : Tr} {sv fv : Value} {K : Nat → List Nat} {d : Nat → Nat}
set_option maxRecDepth 100000 in
set_option maxHeartbeats 8000000 in
theorem swalk_any (hL : Lk S K d) (hN : ∀ f i n, S.at i = some n → (wlk K f i).length ≤ 100000) (hal : ∀ i n, S.at i = some n → n.attrs.length ≤ 1000) : ∀ (f i : Nat) (n : Nd), S.at i = some n → 128 - d i = f → ∀ w, TAt B R S sv fv w →
    Calls Tryz.prog 126 #[.pointer (some ⟨R, 0, none⟩), .int .i64 (S.hd i)] w fun e w' => ∃ v, e = .returned v ∧ w'.ownsRow w.heap.size 3 1 v (wlk K f i).length (hdC S (wlk K f i)) ∧ Below w.heap.size w w' := by
  intro f
  induction f using Nat.strongRecOn with
  | ind f ih =>
    intro i n hi hf w h
    obtain ⟨g, cap, rfl⟩ := slots_some h (by have := at_lt hi; omega)
    have HNo := Lib.hid (fun (k : Nat) (nk : Nd) (hk : S.at k = some nk) (wx : World) (hx : Below w.heap.size w wx) => snode_some (h.below hx) (S.hd k) (hd_ok hL hk).1 (hd_ix hL hk) (at_slot hk))
    have hkd : ∀ k ∈ K i, ∃ nk, S.at k = some nk := fun k hk => Option.isSome_iff_exists.1 (hL.kin i k hk).2
    have hlow := hL.low i
    have HC := Lib.hid (fun (k : Nat) (hk : k ∈ K i) (wx : World) (hx : Below w.heap.size w wx) => (show
        Calls Tryz.prog 126 #[.pointer (some ⟨R, 0, none⟩), .int .i64 (S.hd k)] wx fun e w' => ∃ v, e = .returned v ∧ w'.ownsRow wx.heap.size 3 1 v (wlk K (f - 1) k).length (hdC S (wlk K (f - 1) k)) ∧ Below wx.heap.size wx w' from by
      obtain ⟨nk, hnk⟩ := hkd k hk
      have h1 := hL.dep i k hk
      have h2 := hL.low k
      exact ih (f - 1) (by omega) k nk hnk (by omega) wx (h.below hx)))
    have hE : wlk K f i = i :: (K i).flatMap (wlk K (f - 1)) := by
      cases f with
      | zero =>
        have hk0 : K i = [] := by
          cases hk : K i with
          | nil => rfl
          | cons k t =>
            have h1 := hL.dep i k (by rw [hk]; simp)
            have h2 := hL.low k
            omega
        rw [hk0]; rfl
      | succ f => rfl
    have hn := hN f i n hi
    rw [hE] at hn ⊢
    have HL := Lib.hid (fun t => (show (((K i).take t).flatMap (wlk K (f - 1))).length ≤ ((K i).flatMap (wlk K (f - 1))).length from by
        rw [← List.take_append_drop t (K i)]
        rw [List.flatMap_append, List.length_append]
        rw [List.take_append_drop]
        omega))
    have HN1 := Lib.hid (fun k (hk : k ∈ K i) => (show (wlk K (f - 1) k).length ≤ 100000 from by
      obtain ⟨nk, hnk⟩ := hkd k hk
      exact hN (f - 1) k nk hnk))
    have HP := Lib.hid (fun (t k : Nat) (hk : (K i)[t]? = some k) => (show ∃ nk, S.at k = some nk ∧ nk.next = hO S (K i)[t + 1]? ∧ nk.attrs.length ≤ 1000 ∧ 1 ≤ S.hd k from by
      obtain ⟨nk, hnk⟩ := hkd k (List.mem_of_getElem? hk)
      exact ⟨nk, hnk, (hL.kid i t k nk hk hnk).2.2, hal k nk hnk, (hd_ok hL hnk).2⟩))
    have hfi := (hL.node i n hi).1
    have HN0 := Lib.hid (HNo.out i n hi w (Below.refl _ _))
    have hav := h.attrs i n (at_slot hi)
    have HAv := Lib.hid (fun (k : Nat) (nk : Nd) (hk : S.at k = some nk) => h.attrs k nk (at_slot hk))
    obtain ⟨nk, nm, nav, nal, nda, np, nf, nl, npv, nx⟩ := n
    simp only at hfi hav HN0
    obtain ⟨va, vc, rfl, _⟩ := hav
    subst hfi
    clear hE h ih hN hi hkd hlow hal
    generalize K i = Ks at *
    go_enter Tryz.func126, Tryz.ntmps126
    go_wp2_with fail
    refine HN0.out.mono ?_
    rintro e w1 ⟨rfl, hb1⟩
    simp only [ndC, strV]
    have hb2 := hb1.alloc hb1.size (.cells #[.int .i64 nk, .string ⟨nm.toArray⟩, .slice va nal.length vc, .string ⟨nda.toArray⟩, .int .i64 np, .int .i64 (hO S Ks[0]?), .int .i64 nl, .int .i64 npv, .int .i64 nx] 135)
    have kn := Blk.new w1 [.int .i64 nk, .string ⟨nm.toArray⟩, .slice va nal.length vc, .string ⟨nda.toArray⟩, .int .i64 np, .int .i64 (hO S Ks[0]?), .int .i64 nl, .int .i64 npv, .int .i64 nx] 135
    clear hb1
    go_upto_region 4 with fail
    generalize w1.alloc (.cells #[.int .i64 nk, .string ⟨nm.toArray⟩, .slice va nal.length vc, .string ⟨nda.toArray⟩, .int .i64 np, .int .i64 (hO S Ks[0]?), .int .i64 nl, .int .i64 npv, .int .i64 nx] 135) = w2 at *
    have hb3 : Below w.heap.size w (w2.alloc (.cells #[.int .i64 (S.hd i)] 3)) := hb2.alloc hb2.size _
    have ho3 : (w2.alloc (.cells #[.int .i64 (S.hd i)] 3)).ownsRow w.heap.size 3 1 (.slice (some ⟨w2.heap.size, 0, none⟩) 1 1) 1 (hdC S [i]) := by
      refine own_base' ?_ (fun k hk => by cases hk; exact hb2.size)
      exact own_at (n := 1) (size := 1) (Blk.new w2 [.int .i64 (S.hd i)] 3) rfl (by omega)
    have c5 := (kn.alloc (.cells #[.int .i64 (S.hd i)] 3)).cell 5
    simp only [List.getElem?_cons_zero, List.getElem?_cons_succ] at c5
    have HO3 := Lib.hid ho3
    have HB3 := Lib.hid hb3
    clear ho3 hb3 kn hb2
    go_wp2_with fail
    generalize w2.alloc (.cells #[.int .i64 (S.hd i)] 3) = w3 at *
    go_loopw [7, 8] (fun ov kv wr => ∃ (t : Nat) (ol : Nat), t ≤ Ks.length ∧ kv = .int .i64 (hO S Ks[t]?) ∧ ol = (i :: (Ks.take t).flatMap (wlk K (f - 1))).length ∧ sliceN ov = ol ∧ wr.ownsRow w.heap.size 3 1 ov ol (hdC S (i :: (Ks.take t).flatMap (wlk K (f - 1)))) ∧ Below w.heap.size w wr) (fun ov _ _ => (i :: Ks.flatMap (wlk K (f - 1))).length - sliceN ov)
    case atStart => exact ⟨0, 1, by omega, rfl, rfl, rfl, HO3.out, HB3.out⟩
    case round =>
      obtain ⟨t, ol, ht, rfl, hol, hsl, hown, hb⟩ := hrel
      obtain ⟨oa, oc, rfl⟩ := own_shapeB hown
      have HO := Lib.hid hown
      have HBr := Lib.hid hb
      have hll := HL.out t
      rw [List.length_cons] at hol
      have hol2 : ol ≤ 100001 := by rw [List.length_cons] at hn; omega
      have HOl := Lib.hid hol
      clear hown hb hol hsl
      by_cases htl : t < Ks.length
      · obtain ⟨k, hk⟩ : ∃ k, Ks[t]? = some k := ⟨_, List.getElem?_eq_getElem htl⟩
        obtain ⟨mk, hmk, hnx, hml, h1⟩ := HP.out t k hk
        rw [hk, hO_some]
        have hne : (S.hd k != 0) = true := by simp; omega
        have HK := Lib.hid (HC.out k (List.mem_of_getElem? hk) _ HBr.out)
        have HM := Lib.hid (HNo.out k mk hmk)
        have hmv := HAv.out k mk hmk
        obtain ⟨mk, mm, mav, mal, mda, mp, mf, ml, mpv, mx⟩ := mk
        simp only at hnx hmv HM hml
        obtain ⟨ma, mc, rfl, _⟩ := hmv
        subst hnx
        have hkn := HN1.out k (List.mem_of_getElem? hk)
        have hkp := wlk_pos K (f - 1) k
        have hl3 := HL.out (t + 1)
        have HS := Lib.hid (flatMap_take_succ hk (wlk K (f - 1)))
        rw [HS.out, List.length_append] at hl3
        generalize (Ks.take t).flatMap (wlk K (f - 1)) = l1 at *
        generalize wlk K (f - 1) k = l2 at *
        generalize hnx : hO S Ks[t + 1]? = nxt at *
        have HNx := Lib.hid hnx
        clear hnx
        clear hk h1 hmk
        go_wp2_with fail
        refine HK.out.mono ?_
        rintro e w4 ⟨v, rfl, hv, hb4⟩
        have hv0 : Own w4 3 1 v l2.length (hdC S l2) := own_low hv (Nat.zero_le _)
        obtain ⟨gv, cv, rfl, _⟩ := own_some hv0 (by omega)
        have HV := Lib.hid hv0
        have HO4 := Lib.hid (own_keepB HO.out hb4)
        have hB4 := bthen HBr.out hb4
        have hlt4 := fun g (hg : (Value.slice oa ol oc).ownBlock = some g) => (HO.out.lt g hg).1
        have HB4 := Lib.hid hB4
        clear hv hv0 hB4 hb4
        have hsz4 : w.heap.size ≤ w4.heap.size := HB4.out.size
        go_wp2_with (at_builtin; refine wpList_append_B etI HO4.out hsz4 HV.out (hdC_one _ _) (by omega) (by omega) rfl _ _ rfl rfl rfl ?_)
        intro v' w5 ho5 hg5 _
        have hb5 := HB4.out.grown hg5 hsz4 (fun k hk => hlt4 k hk)
        obtain ⟨oa5, oc5, rfl⟩ := own_shapeB ho5
        have HO5 := Lib.hid ho5
        have HB5 := Lib.hid hb5
        clear ho5 hg5 HO4 HV hlt4
        go_wp2_with fail
        refine (HM.out _ HB5.out).mono ?_
        rintro e w6 ⟨rfl, hb6⟩
        simp only [ndC, strV]
        have hb7 := (Below.refl w6.heap.size w6).alloc (Nat.le_refl _) (.cells #[.int .i64 mk, .string ⟨mm.toArray⟩, .slice ma mal.length mc, .string ⟨mda.toArray⟩, .int .i64 mp, .int .i64 mf, .int .i64 ml, .int .i64 mpv, .int .i64 nxt] 135)
        have c8 := (Blk.new w6 [.int .i64 mk, .string ⟨mm.toArray⟩, .slice ma mal.length mc, .string ⟨mda.toArray⟩, .int .i64 mp, .int .i64 mf, .int .i64 ml, .int .i64 mpv, .int .i64 nxt] 135).cell 8
        simp only [List.getElem?_cons_zero, List.getElem?_cons_succ] at c8
        have HO7 := Lib.hid (own_keepB (own_keepB HO5.out hb6) hb7)
        have HB7 := Lib.hid (bthen HB5.out (bthen hb6 hb7))
        clear hb6 hb7 hb5
        go_wp2_with fail
        go_roundw
        case rel =>
          refine ⟨t + 1, ol + l2.length, by omega, by rw [HNx.out], ?_, rfl, ?_, HB7.out⟩
          · have := HOl.out; rw [HS.out, List.length_cons, List.length_append]; omega
          · rw [HS.out]
            have := HO7.out
            rw [hdC_app, List.cons_append] at this
            exact this
        case measure => simp only [sliceN]; have := HOl.out; rw [List.length_cons]; omega
      · obtain rfl : t = Ks.length := by omega
        rw [List.take_length] at HO HOl
        rw [List.getElem?_eq_none (Nat.le_refl _), hO_none]
        go_wp2_with fail
        go_ret
        refine ⟨_, rfl, ?_, HBr.out⟩
        rw [← HOl.out]
        exact HO.out
end
def roF : Value → Nat → Prop
  | .slice (some a) _ (_ + 1), k => a.block = k
  | _, _ => False
def Ro (w : World) (e : TypeId) (size : Nat) (v : Value) (n : Nat) (xs : List Value) : Prop :=
  (n = 0 ∧ xs = [] ∧ ∃ a, v = .slice a 0 0) ∨
  ∃ g k c cap pre, v = .slice (some ⟨g, k * size, none⟩) n (c + 1) ∧ n ≤ c + 1 ∧ k + (c + 1) ≤ cap ∧ pre.length = k * size ∧ Own w e size (.slice (some ⟨g, 0, none⟩) (k + n) cap) (k + n) (pre ++ xs)
theorem Ro.kept {w w' : World} {e : TypeId} {size n : Nat} {v : Value} {xs : List Value} (h : Ro w e size v n xs) (k : ∀ g, roF v g → w'.heap[g]? = w.heap[g]?) : Ro w' e size v n xs := by
  rcases h with h | ⟨g, k0, c, cap, pre, rfl, h1, h2, h3, h4⟩
  · exact .inl h
  · exact .inr ⟨g, k0, c, cap, pre, rfl, h1, h2, h3, own_kept h4 (fun b hb => k b (by cases hb; rfl))⟩
theorem Ro.lt {w : World} {e : TypeId} {size n : Nat} {v : Value} {xs : List Value} (h : Ro w e size v n xs) {g : Nat} (hg : roF v g) : g < w.heap.size := by
  rcases h with ⟨_, _, a, rfl⟩ | ⟨g0, k0, c, cap, pre, rfl, h1, h2, h3, h4⟩
  · cases a <;> exact hg.elim
  · exact own_lt h4 (k := g) (by rw [← (show g0 = g from hg)]; rfl)
def ro (e : TypeId) (size : Nat) (v : Value) (n : Nat) (xs : List Value) : Ob :=
  ⟨fun w => Ro w e size v n xs, roF v, fun w h k hk => h.lt hk, fun w w' h k => h.kept k⟩
theorem Ro.len {w : World} {e : TypeId} {size n : Nat} {v : Value} {xs : List Value} (h : Ro w e size v n xs) : xs.length = n * size := by
  rcases h with ⟨rfl, rfl, _⟩ | ⟨g, k0, c, cap, pre, rfl, h1, h2, h3, h4⟩
  · simp
  · have := h4.1
    rw [List.length_append, h3, Nat.add_mul] at this
    omega
theorem Ro.shape {w : World} {e : TypeId} {size n : Nat} {v : Value} {xs : List Value} (h : Ro w e size v n xs) : ∃ a cap, v = .slice a n cap ∧ n ≤ cap := by
  rcases h with ⟨rfl, rfl, a, rfl⟩ | ⟨g, k0, c, cap, pre, rfl, h1, h2, h3, h4⟩
  · exact ⟨a, 0, rfl, Nat.le_refl _⟩
  · exact ⟨_, _, rfl, h1⟩
theorem Ro.at_ {w : World} {e : TypeId} {size n : Nat} {v : Value} {xs : List Value} (h : Ro w e size v n xs) (hn : 0 < n) : ∃ g o cap, v = .slice (some ⟨g, o, none⟩) n cap ∧ n ≤ cap ∧ ∀ j, j < n * size → w.cell? ⟨g, o + j, none⟩ = xs[j]? := by
  rcases h with ⟨rfl, rfl, _⟩ | ⟨g, k0, c, cap, pre, rfl, h1, h2, h3, h4⟩
  · omega
  · refine ⟨g, k0 * size, c + 1, rfl, h1, fun j hj => ?_⟩
    rw [h4.cellAt (k0 * size + j) (by rw [Nat.add_mul]; omega), List.getElem?_append_right (by omega), h3, Nat.add_sub_cancel_left]
theorem Ro.of {w : World} {e : TypeId} {size n : Nat} {v : Value} {xs : List Value} (h : Own w e size v n xs) : Ro w e size v n xs := by
  have hh := h
  rcases h.2 with ⟨rfl, rfl⟩ | ⟨g, cap, cur, rfl, _, _, hc, _⟩
  · exact .inl ⟨rfl, List.eq_nil_of_length_eq_zero (by rw [h.1]; omega), none, rfl⟩
  · cases cap with
    | zero =>
      obtain rfl : n = 0 := by omega
      exact .inl ⟨rfl, List.eq_nil_of_length_eq_zero (by rw [h.1]; omega), _, rfl⟩
    | succ c => exact .inr ⟨g, 0, c, c + 1, [], by simp, hc, by omega, by simp, by simpa using hh⟩
theorem roF_own {v : Value} {k : Nat} (h : roF v k) : v.ownBlock = some k := by
  unfold roF at h
  split at h
  · rw [← h]; rfl
  · exact h.elim
theorem Ro.nil (w : World) (e : TypeId) (size : Nat) : Ro w e size (.slice none 0 0) 0 [] := .inl ⟨rfl, rfl, none, rfl⟩
theorem Ro.drop {w : World} {e : TypeId} {size n g o cap : Nat} {xs : List Value} (h : Ro w e size (.slice (some ⟨g, o, none⟩) n cap) n xs) {m : Nat} (hm : m < n) : Ro w e size (.slice (some ⟨g, o + m * size, none⟩) (n - m) (cap - m)) (n - m) (xs.drop (m * size)) ∧ ∀ k, roF (.slice (some ⟨g, o + m * size, none⟩) (n - m) (cap - m)) k → roF (.slice (some ⟨g, o, none⟩) n cap) k := by
  rcases h with ⟨rfl, _⟩ | ⟨g', k0, c, cp, pre, hv, h1, h2, h3, h4⟩
  · omega
  · cases hv
    have hl := h4.1
    rw [List.length_append, h3, Nat.add_mul] at hl
    have hmul : m * size ≤ n * size := Nat.mul_le_mul_right _ (by omega)
    refine ⟨.inr ⟨g, k0 + m, c - m, cp, pre ++ xs.take (m * size), ?_, by omega, by omega, ?_, ?_⟩, fun k hk => ?_⟩
    · rw [Nat.add_mul, show c + 1 - m = c - m + 1 by omega]
    · rw [List.length_append, List.length_take, h3, Nat.add_mul, Nat.min_eq_left (by omega)]
    · rw [List.append_assoc, List.take_append_drop, show k0 + m + (n - m) = k0 + n by omega]
      exact h4
    · exact roF_own hk |> fun q => by cases q; rfl
theorem own_lowR {w : World} {B e sz n : Nat} {v : Value} {xs : List Value} (h : w.ownsRow B e sz v n xs) : Own w e sz v n xs := by
  obtain ⟨h1, h2⟩ := h
  refine ⟨h1, h2.imp id ?_⟩
  rintro ⟨g, cap, cur, rfl, _, rest⟩
  exact ⟨g, cap, cur, rfl, Nat.zero_le _, rest⟩
theorem run_append_ro {P : Program} {t ty e : TypeId} {size bytes : Nat} (hT : ET P t e size bytes) {w : World} {dv : Value} {n : Nat} {xs : List Value} (h : Ro w e size dv n xs)
    {ad : Addr} {m c : Nat} {ys : List Value} (hl : ys.length = m * size) (hs : ∀ j u, ys[j]? = some u → w.cell? (ad.add j) = some u) (h1 : ∀ u ∈ ys, u.oneCell' = true) (hm : 0 < m) (hlen : n + m ≤ 1000000000) (hby : bytes ≤ 1000) :
    ∃ v' w', (Builtin.append_ #[t, t] ty #[dv, .slice (some ad) m c]).run P w = .ok v' w' ∧ Ro w' e size v' (n + m) (xs ++ ys) ∧ Chg (roF dv) w w' ∧ (∀ k, roF v' k → roF dv k ∨ w.heap.size ≤ k) := by
  obtain ⟨i, z, hi, hz0, hz1, hz2, hz3⟩ := hT.info
  have hmul : (n + m) * bytes ≤ 1000000000 * 1000 := Nat.mul_le_mul hlen hby
  have hxl := h.len
  have fresh : ∀ {v' : Value} {w' : World}, w'.ownsRow w.heap.size e size v' (n + m) (xs ++ ys) → w.grownBy w' none → Ro w' e size v' (n + m) (xs ++ ys) ∧ Chg (roF dv) w w' := fun ho hg =>
    ⟨Ro.of (own_lowR ho), (Chg.refl _ _).grown hg (fun k hk => by cases hk)⟩
  rcases h with ⟨rfl, rfl, a, rfl⟩ | ⟨g, k0, c0, cap, pre, rfl, hn, hc, hp, hown⟩
  · cases a with
    | none =>
      obtain ⟨v', w', hr, h2, h3, _, h5⟩ := run_append_own_at (P := P) w 0 t ty e i z size bytes hT.under hi hz0 hz1 hz2 hz3 hT.pos (.slice none 0 0) 0 [] (World.ownsRow_nil w _ e size) ad m c ys hl hs h1 (by unfold maxLen; omega) (by omega) (Nat.zero_le _)
      refine ⟨v', w', hr, Ro.of h2, (Chg.refl _ _).grown h3 (fun k hk => by cases hk), fun k hk => .inr ?_⟩
      have := roF_own hk
      rcases h5 with h5 | h5
      · rw [h5] at this; cases this
      · rw [h5] at this; exact Nat.le_of_eq (Option.some.inj this)
    | some b =>
      obtain ⟨v', w', hr, h2, h3⟩ := run_append_arg_grows (P := P) w t ty e i z size bytes hT.under hi hz0 hz1 hz2 hz3 hT.pos b 0 0 [] (by simp) (by simp) ad m c ys hl hs (by omega) (by unfold maxLen; omega) (by omega)
      exact ⟨v', w', hr, (fresh h2 h3).1, (fresh h2 h3).2, fun k hk => .inr (h2.lt k (roF_own hk)).1⟩
  · have hcell : ∀ j u, xs[j]? = some u → w.cell? ((⟨g, k0 * size, none⟩ : Addr).add j) = some u := fun j u hj => by
      have hjl : j < n * size := by rw [← hxl]; exact (List.getElem?_eq_some_iff.1 hj).1
      rw [Go.WideShapes.add_plain, hown.cellAt (k0 * size + j) (by rw [Nat.add_mul]; omega), List.getElem?_append_right (by omega), hp, Nat.add_sub_cancel_left, hj]
    by_cases hroom : n + m ≤ c0 + 1
    · obtain ⟨cur, hcur, hcm, hcs, htk⟩ : ∃ cur, w.heap[g]? = some (.cells cur e (0, 0)) ∧ cap ≤ maxLen ∧ cur.size = cap * size ∧ cur.toList.take ((k0 + n) * size) = pre ++ xs := by
        rcases hown.2 with ⟨e, _⟩ | ⟨g', cap', cur, e, _, hgg, _, hcm, hcs, ht⟩
        · cases e
        · cases e; exact ⟨cur, hgg, hcm, hcs, ht⟩
      subst hz1
      have hpl := hown.1
      have hle : (k0 + n + m) * i.size ≤ cap * i.size := Nat.mul_le_mul_right _ (by omega)
      have hsum : (k0 + n + m) * i.size = k0 * i.size + n * i.size + m * i.size := by rw [Nat.add_mul, Nat.add_mul]
      have hsum2 : (k0 + n) * i.size = k0 * i.size + n * i.size := Nat.add_mul _ _ _
      have hex : ∀ o j, o = k0 * i.size + n * i.size → j < ys.length → (w.cell? ⟨g, o + j, none⟩).isSome = true ∧ w.frozen? ⟨g, o + j, none⟩ = false := fun o j ho hj => by
        refine ⟨?_, by simp [World.frozen?, hcur]⟩
        simp only [World.cell?, hcur]
        have hlt : o + j < cur.size := by rw [hcs]; omega
        simp [hlt]
      have r1 := run_append_room_cells (P := P) w t ty e i hT.under hi g (k0 * i.size) n (c0 + 1) ad m c ys hl hs h1 hroom (fun j hj => (hex _ j rfl hj).1) (fun j hj => (hex _ j rfl hj).2)
      have r2 := run_append_room_cells (P := P) w t ty e i hT.under hi g 0 (k0 + n) cap ad m c ys hl hs h1 (by omega) (fun j hj => (hex _ j (by rw [Nat.zero_add, hsum2]) hj).1) (fun j hj => (hex _ j (by rw [Nat.zero_add, hsum2]) hj).2)
      have r3 := run_append_room (P := P) w t ty e i hT.under hi g (k0 + n) cap cur hcur ad m c ys hl hs h1 (by omega) (by rw [hcs, hl]; omega)
      rw [r2, Nat.zero_add, hsum2] at r3
      have hw := (Result.ok.inj r3).2
      rw [hw] at r1
      refine ⟨_, _, r1, .inr ⟨g, k0, c0, cap, pre, rfl, hroom, hc, hp, ?_⟩, ?_, fun k hk => .inl hk⟩
      · have hlen2 : (pre ++ (xs ++ ys)).length = (k0 + (n + m)) * i.size := by rw [← List.append_assoc, List.length_append, hpl, hl, ← Nat.add_mul, Nat.add_assoc]
        refine ⟨hlen2, .inr ⟨g, cap, _, rfl, Nat.zero_le _, setRow_heap w g cur _ e _ hcur, by omega, hcm, ?_, ?_⟩⟩
        · simp only [List.size_toArray, List.length_append, List.length_take, List.length_drop, Array.length_toList]
          omega
        · rw [← hsum2, htk, ← hlen2, ← List.append_assoc]
          exact List.take_left
      · exact (Chg.refl _ _).grown (row := some g) ⟨rfl, rfl, rfl, by simp, fun k _ hk => setRow_other w g k _ (fun e => hk (by simp [e]))⟩ (fun k hk _ => by cases hk; rfl)
    · obtain ⟨v', w', hr, h2, h3⟩ := run_append_arg_grows (P := P) w t ty e i z size bytes hT.under hi hz0 hz1 hz2 hz3 hT.pos ⟨g, k0 * size, none⟩ n (c0 + 1) xs hxl hcell ad m c ys hl hs (by omega) (by unfold maxLen; omega) (by omega)
      exact ⟨v', w', hr, (fresh h2 h3).1, (fresh h2 h3).2, fun k hk => .inr (h2.lt k (roF_own hk)).1⟩

def encE (e : FE) : List Value := [.int .i64 (e.at_ : Int), strV e.old, strV e.new, .int .i64 (e.st : Int), .int .i64 (e.en : Int)]
theorem encE_len (e : FE) : (encE e).length = 5 := rfl
theorem encE_one (e : FE) : ∀ u ∈ encE e, u.oneCell' = true := by
  intro u hu
  simp only [encE, List.mem_cons, List.not_mem_nil, or_false] at hu
  rcases hu with rfl | rfl | rfl | rfl | rfl <;> rfl
structure FX where
  node : Int
  dirty : Bool
  touched : Bool
  checked : Bool
  t : FT
  uv : Value
  rv : Value
def fxC (x : FX) : List Value := [.int .i64 x.node, .bool x.dirty, strV x.t.val, .bool x.touched, .bool x.checked, .int .i64 (x.t.st : Int), .int .i64 (x.t.en : Int), x.uv, x.rv]
theorem fxC_len (x : FX) : (fxC x).length = 9 := rfl
def fsL (Q : Nat) (fv : Value) (foc : Int) (X : List FX) : List Ob := bk Q [fv, .int .i64 foc] 30 :: sl 119 9 fv X.length (rows fxC X) :: []
theorem etE : ET Tryz.prog 117 126 5 56 := ET.mk' (z := .agg #[.int .i64 0, .string ⟨#[]⟩, .string ⟨#[]⟩, .int .i64 0, .int .i64 0]) Tryz.underlying117 (by kernel_rfl) rfl (by omega)
theorem etF : ET Tryz.prog 28 119 9 104 := ET.mk' (z := .agg #[.int .i64 0, .bool false, .string ⟨#[]⟩, .bool false, .bool false, .int .i64 0, .int .i64 0, .slice none 0 0, .slice none 0 0]) Tryz.underlying28 (by kernel_rfl) rfl (by omega)
end Go.Proofs.YtacdbnhnhdlmpaaGreatDoor.W
end
