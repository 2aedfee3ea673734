/- Texts joined: Grw Nod Atr Knd. -/
import Derived.Test.YtacdbnhnhdlmpaaGreatDoorFU30
import Derived.Test.YtacdbnhnhdlmpaaGreatDoorFU27
import Derived.Test.YtacdbnhnhdlmpaaGreatDoorFU28
import Derived.Test.YtacdbnhnhdlmpaaGreatDoorFU14
set_option maxRecDepth 100000
set_option maxHeartbeats 40000000
set_option linter.unusedVariables false
set_option linter.unusedSimpArgs false
section
namespace Go.Proofs.YtacdbnhnhdlmpaaGreatDoor.W
open Go.RowKit
def nI (S : Tr) (x : Nat) : Option (Int × List UInt8 × List Atr × List UInt8) := (S.at x).map fun n => (n.kind, n.name, n.attrs, n.data)
theorem nI_some {S : Tr} {x : Nat} {a : Int} {b : List UInt8} {c : List Atr} {e : List UInt8} (h : nI S x = some (a, b, c, e)) : ∃ n, S.at x = some n ∧ n.kind = a ∧ n.name = b ∧ n.attrs = c ∧ n.data = e := by
  unfold nI at h
  obtain ⟨n, h1, h2⟩ := Option.map_eq_some_iff.1 h
  simp only [Prod.mk.injEq] at h2
  exact ⟨n, h1, h2⟩
section
variable {S S' : Tr} {K : Nat → List Nat} {d : Nat → Nat} {c : Nat}
theorem not_sub (L : Lk S K d) {i : Nat} (hK : K i = []) : ∀ (m p : Nat), d p ≤ m → (S.at p).isSome = true → p ≠ i → subB S d i p = false
  | 0, p, hm, hp, hne => by
    rcases L.parO p with ⟨q, hq⟩ | ht
    · have := L.dep q p hq; omega
    · have := L.one p hp ht; omega
  | m + 1, p, hm, hp, hne => by
    have e : (i == p) = false := by simpa using fun e => hne e.symm
    rcases L.parO p with ⟨q, hq⟩ | ht
    · rw [sub_kid L hq, e, Bool.false_or]
      have hd := L.dep q p hq
      refine not_sub L hK m q (by omega) (L.kin q p hq).1 ?_
      rintro rfl
      rw [hK] at hq; cases hq
    · rw [sub_top L hp ht, e]
structure GMk (c : Nat) (S : Tr) (K : Nat → List Nat) (d : Nat → Nat) (s : Nat) (S' : Tr) (q : Int × List UInt8 × List Atr × List UInt8) : Prop where
  ok : TrOk c S' K (dAdd d s)
  fr : S'.free = []
  len : S'.slots.length = s + 1
  nI : ∀ x, nI S' x = if x = s then some q else nI S x
  hd : ∀ x, S'.hd x = S.hd x
  root : S'.root = S.root
  kid : K s = []
  det : ∀ q, s ∉ K q
theorem gmk_of (T : TrOk c S K d) (hf : S.free = []) (n : Nd) (h1 : n.parent = 0) (h2 : n.first = 0) (h3 : n.last = 0) (h4 : n.prev = 0) (h5 : n.next = 0) (hn : NdOk c n) (hk : n.kind ≠ 1) (hl : S.slots.length < 1000000) : GMk c S K d S.slots.length (S.add n) (n.kind, n.name, n.attrs, n.data) := by
  have ha : S.addI = S.slots.length := by unfold Tr.addI; rw [hf]; rfl
  have k := added_of T.fr T.frnd n
  rw [ha] at k
  have hno := k.no
  refine ⟨T.added k h1 h2 h3 h4 h5 hl hn hk, ?_, ?_, fun x => ?_, k.hd, k.root, T.lk.no_kids hno, fun q hq => ?_⟩
  · rw [List.eq_nil_iff_forall_not_mem]
    intro i hi
    have := (k.free i hi).1
    rw [hf] at this; cases this
  · have := k.len; omega
  · unfold nI
    rw [k.at_]
    split <;> rfl
  · have := (T.lk.kin q _ hq).2
    rw [hno] at this; cases this
def KIn (K : Nat → List Nat) (p i : Nat) (q : Nat) : List Nat := if q = p then K p ++ [i] else K q
structure GIn (c : Nat) (S : Tr) (K : Nat → List Nat) (d : Nat → Nat) (p i : Nat) (S' : Tr) : Prop where
  ok : TrOk c S' (KIn K p i) (fun x => if x = i then d p + 1 else d x)
  fr : S'.free = S.free
  len : S'.slots.length = S.slots.length
  nI : ∀ x, nI S' x = nI S x
  hd : ∀ x, S'.hd x = S.hd x
  root : S'.root = S.root
theorem may_of (L : Lk S K d) {p i : Nat} {np ni : Nd} (hp : S.at p = some np) (hi : S.at i = some ni) (hK : K i = []) (hne : p ≠ i) (hm : (np.kind = 2 ∧ ni.kind ≠ 1) ∨ (np.kind = 1 ∧ ni.kind = 2 ∧ K p = [])) : mayB S K d p i np ni = true := by
  have hs : contB S i (d p) (some p) = false := not_sub L hK (d p) p (Nat.le_refl _) (by rw [hp]; rfl) hne
  unfold mayB
  rw [hs, Bool.or_false]
  rcases hm with ⟨h1, h2⟩ | ⟨h1, h2, h3⟩
  · rw [if_neg (by simpa using h2), if_pos (by rw [h1]; rfl)]
  · rw [h1, h2, h3]; rfl
theorem gin_of (T : TrOk c S K d) {p i : Nat} {np ni : Nd} (hp : S.at p = some np) (hi : S.at i = some ni) (hK : K i = []) (hdet : ∀ q, i ∉ K q) (hne : p ≠ i) (hm : (np.kind = 2 ∧ ni.kind ≠ 1) ∨ (np.kind = 1 ∧ ni.kind = 2 ∧ K p = [])) (hd : d p + 1 ≤ 128)
    {ls : List (List Value)} {er : Int} (h : InsT S K d p i none np ni S' ls er) : er = 0 ∧ GIn c S K d p i S' := by
  have hmay := may_of T.lk hp hi hK hne hm
  have hd1 : d i = 1 := T.lk.one i (by rw [hi]; rfl) hdet
  cases h with
  | no h => rw [hmay] at h; cases h
  | other b h e hb => cases e
  | far h ho hd' => rw [hgt_leaf hK] at hd'; omega
  | ok S' K' ls h ho hd' hout hL =>
    refine ⟨rfl, ?_⟩
    have T' := T.ins hp hi hmay hout hL
    cases hout with
    | att q j t S1 o' h1 h2 h3 h4 h5 h6 h7 => exact absurd (List.mem_of_getElem? h1) (hdet q)
    | det j h1 h2 h3 h4 h5 =>
      obtain rfl : j = (K p).length := by
        rcases h2 with ⟨_, e⟩ | ⟨b, e, _⟩
        · exact e
        · cases e
      have hKe : K' = KIn K p i := by
        rw [h4]
        funext q
        unfold linkK KIn
        rw [List.take_length, List.drop_length]
      have hde : dIns S d p i = fun x => if x = i then d p + 1 else d x := by
        funext x
        unfold dIns
        by_cases hx : x = i
        · subst hx
          have hss : subB S d x x = true := by
            unfold subB
            rw [hd1]
            show (x == x || _) = true
            simp
          rw [if_pos rfl, hi, hss, hd1]
          show 1 - 1 + 1 + d p = d p + 1
          omega
        · rw [if_neg hx]
          cases e : S.at x with
          | none => rfl
          | some nx =>
            rw [not_sub T.lk hK (d x) x (Nat.le_refl _) (by rw [e]; rfl) hx]
            rfl
      rw [hKe, hde] at T'
      refine ⟨T', h3.free, h3.len, fun x => ?_, h3.hd, h3.root⟩
      unfold nI
      rw [h3.at_]
      cases S.at x <;> rfl
theorem newT_ok (b s : Int) : TrOk 1 (newT b s) (fun _ => []) (fun _ => 1) := by
  have hlk : Lk (newT b s) (fun _ => []) (fun _ => 1) := start_lk b s
  have hat : ∀ i n, (newT b s).at i = some n → i = 0 ∧ n = newN 1 [] := fun i n hi => by
    unfold Tr.at newT at hi
    cases i with
    | zero => simp at hi; exact ⟨rfl, hi.symm⟩
    | succ i => simp at hi
  have h0 : (newT b s).at 0 = some (newN 1 []) := rfl
  refine ⟨hlk, fun x n hx => ?_, fun p np _ => .inl rfl, fun i hi => (by cases hi), List.nodup_nil, rfl, ⟨_, h0, rfl⟩, fun x n hx hx0 => absurd (hat x n hx).1 hx0, fun p h => (by cases h)⟩
  rw [(hat x n hx).2]
  exact ⟨.inl rfl, fun e => (by cases e), fun e => (by rcases e with e | e <;> cases e), fun _ => ⟨rfl, rfl, rfl⟩, fun a ha => (by cases ha), List.nodup_nil, by simp [newN], by simp [newN], by simp [newN]⟩
end
section
variable {B : Nat} {w0 w : World} {R c : Nat} {S : Tr} {sv fv : Value} {K : Nat → List Nat} {d : Nat → Nat} {l : List Ob}
theorem make_all (h : All B w0 (trO R S sv fv :: l) w) (hT : Laid w) (T : TrOk c S K d) (hf : S.free = []) (hl : S.slots.length ≤ 1000) (kind : Int) (name data : List UInt8) (hn : name.length ≤ 1000) (hd : data.length ≤ 1000) (v : Value) (al : List Atr) (hv : Own w 85 2 v al.length (attrC al)) (hal : al.length ≤ 100) (has : ∀ a ∈ al, a.1.length ≤ 1000 ∧ a.2.length ≤ 1000) :
    Calls Tryz.prog 56 #[.pointer (some ⟨R, 0, none⟩), .int .i64 kind, .string ⟨name.toArray⟩, .string ⟨data.toArray⟩, v] w fun e w' => ∃ S' sv' fv' hh er, MakT w.heap.size S kind name data al S' hh er ∧ e = .returned (.tuple #[.int .i64 hh, .int .i64 er]) ∧ All B w0 (trO R S' sv' fv' :: l) w' := by
  have hA : TAt 0 R S sv fv w := h.head
  refine (mkT_any hA hT T.fr (by rw [hf]; simp) (by omega) kind name data hn hd v al hv hal has).mono ?_
  intro e w' hm
  obtain ⟨S', sv', fv', hh, er, h1, rfl, k⟩ := mak_out hm T.fr T.frnd
  exact ⟨S', sv', fv', hh, er, h1, rfl, h.step [] (o := trO R S sv fv) (o' := trO R S' sv' fv') k.at_ k.chg k.new⟩
theorem make_el (h : All B w0 (trO R S sv fv :: l) w) (hT : Laid w) (T : TrOk c S K d) (hf : S.free = []) (hl : S.slots.length ≤ 1000) (s : Nat) (hs : S.slots.length = s) (name : List UInt8) (hn : name.length ≤ 200) (v : Value) (al : List Atr) (hv : Own w 85 2 v al.length (attrC al)) (hal : al.length ≤ 64) (has : ∀ a ∈ al, a.1.length ≤ 200 ∧ a.2.length ≤ 1000 ∧ (fix a.2).length ≤ 200) (hb : (elmB name && namesB al) = true) :
    Calls Tryz.prog 56 #[.pointer (some ⟨R, 0, none⟩), .int .i64 2, .string ⟨name.toArray⟩, .string ⟨#[]⟩, v] w fun e w' => ∃ S' sv' fv', e = .returned (.tuple #[.int .i64 (S.hd s), .int .i64 0]) ∧ All B w0 (trO R S' sv' fv' :: l) w' ∧ GMk c S K d s S' (2, name, al.map (fun a => (a.1, fix a.2)), []) := by
  subst hs
  refine (make_all h hT T hf hl 2 name [] (by omega) (by simp) v al hv (by omega) (fun a ha => ⟨by have := has a ha; omega, (has a ha).2.1⟩)).mono ?_
  rintro e w' ⟨S', sv', fv', hh, er, hm, rfl, hA⟩
  cases hm with
  | kind a _ _ => exact absurd rfl a
  | arg _ a => rw [hb] at a; cases a
  | many _ _ a => omega
  | tx a => rcases a with a | a <;> cases a
  | el av _ _ _ hfr =>
    have ha : S.addI = S.slots.length := by unfold Tr.addI; rw [hf]; rfl
    rw [ha]
    rw [Bool.and_eq_true] at hb
    obtain ⟨h1, h2⟩ := namesB_parts hb.2
    refine ⟨_, sv', fv', rfl, hA, gmk_of T hf _ rfl rfl rfl rfl rfl ?_ (by show (2 : Int) ≠ 1; omega) (by omega)⟩
    refine ⟨.inr (.inl rfl), fun _ => ⟨rfl, hb.1⟩, fun e => (by rcases e with e | e <;> cases e), fun e => (by cases e), fun a hm => ?_, ?_, (by simpa [mkN] using hal), (by simp [mkN]), hn⟩
    · obtain ⟨b, hb', rfl⟩ := List.mem_map.1 hm
      have := has b hb'
      exact ⟨h1 b hb', fix_valid _, this.1, this.2.2⟩
    · have e : ((mkN 2 name av (al.map fun a => (a.1, fix a.2)) []).attrs.map (·.1)) = al.map (·.1) := by simp [mkN, List.map_map, Function.comp_def]
      rw [e]
      exact h2
theorem make_tx (h : All B w0 (trO R S sv fv :: l) w) (hT : Laid w) (T : TrOk c S K d) (hf : S.free = []) (hl : S.slots.length ≤ 1000) (s : Nat) (hs : S.slots.length = s) (data : List UInt8) (hd : data.length ≤ 1000) (hc : (fix data).length ≤ 200 * (c + 1)) :
    Calls Tryz.prog 56 #[.pointer (some ⟨R, 0, none⟩), .int .i64 3, .string ⟨#[]⟩, .string ⟨data.toArray⟩, .slice none 0 0] w fun e w' => ∃ S' sv' fv', e = .returned (.tuple #[.int .i64 (S.hd s), .int .i64 0]) ∧ All B w0 (trO R S' sv' fv' :: l) w' ∧ GMk c S K d s S' (3, [], [], fix data) := by
  subst hs
  refine (make_all h hT T hf hl 3 [] data (by simp) hd (.slice none 0 0) [] (World.ownsRow_nil _ _ _ _) (by simp) (fun a ha => by cases ha)).mono ?_
  rintro e w' ⟨S', sv', fv', hh, er, hm, rfl, hA⟩
  cases hm with
  | kind _ a _ => exact absurd rfl a
  | arg a _ => cases a
  | many a _ _ => cases a
  | el av a _ _ _ => cases a
  | tx a =>
    have ha : S.addI = S.slots.length := by unfold Tr.addI; rw [hf]; rfl
    rw [ha]
    refine ⟨_, sv', fv', rfl, hA, gmk_of T hf _ rfl rfl rfl rfl rfl ?_ (by show (3 : Int) ≠ 1; omega) (by omega)⟩
    refine ⟨.inr (.inr (.inl rfl)), fun e => (by cases e), fun _ => ⟨rfl, rfl, fix_valid _⟩, fun e => (by cases e), fun a hm => (by cases hm), List.nodup_nil, (by simp [mkN]), hc, (by simp [mkN])⟩
theorem ins_all (h : All B w0 (trO R S sv fv :: l) w) (T : TrOk c S K d) (p i : Nat) (np ni : Nd) (hp : S.at p = some np) (hi : S.at i = some ni) (hK : K i = []) (hdet : ∀ q, i ∉ K q) (hne : p ≠ i) (hm : (np.kind = 2 ∧ ni.kind ≠ 1) ∨ (np.kind = 1 ∧ ni.kind = 2 ∧ K p = [])) (hd : d p + 1 ≤ 128) :
    Calls Tryz.prog 57 #[.pointer (some ⟨R, 0, none⟩), .int .i64 (S.hd p), .int .i64 (S.hd i), .int .i64 0] w fun e w' => ∃ S' sv' fv' v, e = .returned (.tuple #[v, .int .i64 0]) ∧ All B w0 (trO R S' sv' fv' :: l) w' ∧ GIn c S K d p i S' := by
  have hA : TAt 0 R S sv fv w := h.head
  refine (tins_any hA T.lk p i none np ni hp hi (fun b e => by cases e)).mono ?_
  rintro e w' ⟨S', sv', fv', v, ls, er, hres, rfl, _, k, _⟩
  obtain ⟨rfl, hg⟩ := gin_of T hp hi hK hdet hne hm hd hres
  exact ⟨S', sv', fv', v, rfl, h.step [] (o := trO R S sv fv) (o' := trO R S' sv' fv') k.at_ k.chg k.new, hg⟩
end
def zeroN : Nd := ⟨0, [], .slice none 0 0, [], [], 0, 0, 0, 0, 0⟩
theorem res_nd {fn : Func} (h : fn.results = #[.cell 4 135, .tmp 5]) {tmps : Array Value} {w : World} {r : Nat} {n : Nd} (hp : tmps.getD 4 undef = .pointer (some ⟨r, 0, none⟩)) (hk : Blk w r (ndC n) 135) :
    (results fn tmps).run Tryz.prog w = .ok (.tuple #[.agg (ndC n).toArray, tmps.getD 5 undef]) w := by
  have c0 := hk.cell 0
  have c1 := hk.cell 1
  have c2 := hk.cell 2
  have c3 := hk.cell 3
  have c4 := hk.cell 4
  have c5 := hk.cell 5
  have c6 := hk.cell 6
  have c7 := hk.cell 7
  have c8 := hk.cell 8
  simp only [ndC, List.getElem?_cons_succ, List.getElem?_cons_zero] at c0 c1 c2 c3 c4 c5 c6 c7 c8
  rw [Array.getD_eq_getD_getElem?] at hp
  simp [results, h, hp, go_sem, ndC, c0, c1, c2, c3, c4, c5, c6, c7, c8]
theorem Blk.over {w : World} {r : Nat} {a : List Value} (n : Nd) (k : Blk w r a 135) (ha : a.length = 9) :
    Blk (((((((((w.setCell ⟨r, 0, none⟩ (.int .i64 n.kind)).setCell ⟨r, 1, none⟩ (strV n.name)).setCell ⟨r, 2, none⟩ n.av).setCell ⟨r, 3, none⟩ (strV n.data)).setCell ⟨r, 4, none⟩ (.int .i64 n.parent)).setCell ⟨r, 5, none⟩ (.int .i64 n.first)).setCell ⟨r, 6, none⟩ (.int .i64 n.last)).setCell ⟨r, 7, none⟩ (.int .i64 n.prev)).setCell ⟨r, 8, none⟩ (.int .i64 n.next)) r (ndC n) 135 := by
  have h9 := ((((((((k.set 0 (.int .i64 n.kind)).set 1 (strV n.name)).set 2 n.av).set 3 (strV n.data)).set 4 (.int .i64 n.parent)).set 5 (.int .i64 n.first)).set 6 (.int .i64 n.last)).set 7 (.int .i64 n.prev)).set 8 (.int .i64 n.next)
  match a, ha with
  | [_, _, _, _, _, _, _, _, _], _ => simpa [ndC] using h9
theorem Below.over {B : Nat} {w0 w : World} {r : Nat} (n : Nd) (h : Below B w0 w) (hr : B ≤ r) :
    Below B w0 (((((((((w.setCell ⟨r, 0, none⟩ (.int .i64 n.kind)).setCell ⟨r, 1, none⟩ (strV n.name)).setCell ⟨r, 2, none⟩ n.av).setCell ⟨r, 3, none⟩ (strV n.data)).setCell ⟨r, 4, none⟩ (.int .i64 n.parent)).setCell ⟨r, 5, none⟩ (.int .i64 n.first)).setCell ⟨r, 6, none⟩ (.int .i64 n.last)).setCell ⟨r, 7, none⟩ (.int .i64 n.prev)).setCell ⟨r, 8, none⟩ (.int .i64 n.next)) :=
  (((((((((h.setCell (p := ⟨r, 0, none⟩) hr _).setCell (p := ⟨r, 1, none⟩) hr _).setCell (p := ⟨r, 2, none⟩) hr _).setCell (p := ⟨r, 3, none⟩) hr _).setCell (p := ⟨r, 4, none⟩) hr _).setCell (p := ⟨r, 5, none⟩) hr _).setCell (p := ⟨r, 6, none⟩) hr _).setCell (p := ⟨r, 7, none⟩) hr _).setCell (p := ⟨r, 8, none⟩) hr _)
theorem get_some {B R g cap : Nat} {S : Tr} {fv : Value} {w : World} (h : TAt B R S (.slice (some ⟨g, 0, none⟩) S.slots.length cap) fv w) (hd : Int) (hh : HOk hd) {k : Nat} (hk : S.ix hd = some k) {n : Nd} (hn : S.slots[k]? = some (some n)) :
    Calls Tryz.prog 125 #[.pointer (some ⟨R, 0, none⟩), .int .i64 hd] w fun e w' => e = .returned (.tuple #[.agg (ndC n).toArray, .bool true]) ∧ Below w.heap.size w w' := by
  obtain ⟨nk, nn, nav, nal, nda, np, nf, nl, npv, nx⟩ := n
  obtain ⟨av, acap, hav, _⟩ := h.attrs k _ hn
  simp only [] at hav
  subst hav
  have HF := Lib.hid (fun wx (hb : Below w.heap.size w wx) => find_some (h.below hb) hd hh hk)
  have HT := Lib.hid h
  have hgl := (h.slots.lt g rfl).2
  obtain ⟨_, hkl, _⟩ := ix_some hk
  have HN := Lib.hid hn
  clear h hk hn
  have hb1 := (Below.refl w.heap.size w).alloc (Nat.le_refl _) (.cells (ndC zeroN).toArray 135)
  have k1 := Blk.new w (ndC zeroN) 135
  go_enter Tryz.func125, Tryz.ntmps125
  go_wp2_with fail
  refine (HF.out _ hb1).mono ?_
  rintro e w2 ⟨rfl, hb2⟩
  have k2 := Blk.below k1 hb2
  have HB2 := Lib.hid (bthen hb1 hb2)
  have hT2 := HT.out.below HB2.out
  have s1 := slot_cell hT2 HN.out 1 (by omega)
  have s2 := slot_cell hT2 HN.out 2 (by omega)
  have s3 := slot_cell hT2 HN.out 3 (by omega)
  have s4 := slot_cell hT2 HN.out 4 (by omega)
  have s5 := slot_cell hT2 HN.out 5 (by omega)
  have s6 := slot_cell hT2 HN.out 6 (by omega)
  have s7 := slot_cell hT2 HN.out 7 (by omega)
  have s8 := slot_cell hT2 HN.out 8 (by omega)
  have s9 := slot_cell hT2 HN.out 9 (by omega)
  simp only [slotC, ndC, strV, List.getElem?_cons_succ, List.getElem?_cons_zero] at s1 s2 s3 s4 s5 s6 s7 s8 s9
  simp only [ndC, zeroN, strV] at k2 ⊢
  have c0 := k2.cell 0
  have c1 := k2.cell 1
  have c2 := k2.cell 2
  have c3 := k2.cell 3
  have c4 := k2.cell 4
  have c5 := k2.cell 5
  have c6 := k2.cell 6
  have c7 := k2.cell 7
  have c8 := k2.cell 8
  have cf := k2.free
  simp only [List.getElem?_cons_succ, List.getElem?_cons_zero] at c0 c1 c2 c3 c4 c5 c6 c7 c8
  have hlt := k2.lt
  have hne : g ≠ w.heap.size := by omega
  have hg2 := (hT2.slots.lt g rfl).2
  clear k1 hb1 hb2 HF hT2
  go_wp2_with fail
  have k9 := Blk.over ⟨nk, nn, .slice av nal.length acap, nal, nda, np, nf, nl, npv, nx⟩ k2 rfl
  have b9 := Below.over ⟨nk, nn, .slice av nal.length acap, nal, nda, np, nf, nl, npv, nx⟩ HB2.out (Nat.le_refl w.heap.size)
  exact bodyPost_ret (res_nd (by rfl) (by rfl) k9) rfl ⟨rfl, b9⟩
theorem attr_below {B : Nat} {w w' : World} {v : Value} {l : List Atr} (h : AttrAt B w v l) (hb : Below w.heap.size w w') : AttrAt B w' v l := by
  obtain ⟨a, c, e, h'⟩ := h
  refine ⟨a, c, e, h'.imp id ?_⟩
  rintro ⟨b, cur, e2, hB, hg, hc⟩
  exact ⟨b, cur, e2, hB, (hb.block b (lt_of_block hg)).trans hg, hc⟩
set_option maxRecDepth 100000 in
set_option maxHeartbeats 4000000 in
theorem node_x {B R : Nat} {w : World} (n : Nd) (b : Bool) (hd : Int) (HG : ∀ wx, Below w.heap.size w wx → Calls Tryz.prog 125 #[.pointer (some ⟨R, 0, none⟩), .int .i64 hd] wx fun e w' => e = .returned (.tuple #[.agg (ndC n).toArray, .bool b]) ∧ Below wx.heap.size wx w')
    (ha : AttrAt B w n.av n.attrs) (hl : n.attrs.length ≤ 1000) (hz : ∀ j, w.frozen? ⟨R, j, none⟩ = false) (hR : R < w.heap.size) :
    Calls Tryz.prog 79 #[.pointer (some ⟨R, 0, none⟩), .int .i64 hd] w fun e w' => ∃ v', e = .returned (.tuple #[.agg (ndC { n with av := v' }).toArray, .bool b]) ∧ w'.ownsRow w.heap.size 85 2 v' n.attrs.length (attrC n.attrs) ∧ Below w.heap.size w w' := by
  obtain ⟨nk, nn, nav, nal, nda, np, nf, nl, npv, nx⟩ := n
  obtain ⟨av, acap, hav, _⟩ := id ha
  simp only [] at hav
  subst hav
  have HGe := Lib.hid HG
  have HA := Lib.hid (fun wx (hb : Below w.heap.size w wx) => (show Calls Tryz.prog 92 #[.slice av nal.length acap] wx _ from clone_attr (attr_below ha hb) hl))
  clear HG ha
  have hb1 := (Below.refl w.heap.size w).alloc (Nat.le_refl _) (.cells (ndC zeroN).toArray 135)
  have k1 := Blk.new w (ndC zeroN) 135
  go_enter Tryz.func79, Tryz.ntmps79
  go_wp2_with fail
  refine (HGe.out _ hb1).mono ?_
  rintro e w2 ⟨rfl, hb2⟩
  simp only [ndC, zeroN, strV] at k1 ⊢
  have k2 := Blk.below k1 hb2
  have hb02 := bthen hb1 hb2
  have k3 := k2.alloc (.cells #[.int .i64 nk, .string ⟨nn.toArray⟩, .slice av nal.length acap, .string ⟨nda.toArray⟩, .int .i64 np, .int .i64 nf, .int .i64 nl, .int .i64 npv, .int .i64 nx] 135)
  have kn := Blk.new w2 [.int .i64 nk, .string ⟨nn.toArray⟩, .slice av nal.length acap, .string ⟨nda.toArray⟩, .int .i64 np, .int .i64 nf, .int .i64 nl, .int .i64 npv, .int .i64 nx] 135
  have hb3 := hb02.alloc hb02.size (.cells #[.int .i64 nk, .string ⟨nn.toArray⟩, .slice av nal.length acap, .string ⟨nda.toArray⟩, .int .i64 np, .int .i64 nf, .int .i64 nl, .int .i64 npv, .int .i64 nx] 135)
  have hl2 := k2.lt
  have hne : w2.heap.size ≠ w.heap.size := by omega
  clear k1 k2 hb1 hb2
  go_wp2_with fail
  generalize hr2 : w2.heap.size = r2 at *
  generalize w2.alloc (.cells #[.int .i64 nk, .string ⟨nn.toArray⟩, .slice av nal.length acap, .string ⟨nda.toArray⟩, .int .i64 np, .int .i64 nf, .int .i64 nl, .int .i64 npv, .int .i64 nx] 135) = w3 at *
  refine (HA.out _ hb3).mono ?_
  rintro e w4 ⟨v', rfl, ho, hb4⟩
  obtain ⟨va, vc, rfl⟩ := own_shapeB ho
  have ho0 : w4.ownsRow w.heap.size 85 2 (.slice va nal.length vc) nal.length (attrC nal) := own_baseB (own_low ho (Nat.zero_le _)) (fun k hk => Nat.le_trans hb3.size (ho.lt k hk).1)
  have HO := Lib.hid ho0
  have kA := Blk.below k3 hb4
  have kN := Blk.below kn hb4
  have HB4 := Lib.hid (bthen hb3 hb4)
  have HKA := Lib.hid kA
  have HKN := Lib.hid kN
  have c0 := kA.cell 0
  have c1 := kA.cell 1
  have c2 := kA.cell 2
  have c3 := kA.cell 3
  have c4 := kA.cell 4
  have c5 := kA.cell 5
  have c6 := kA.cell 6
  have c7 := kA.cell 7
  have c8 := kA.cell 8
  have cf := kA.free
  have d0 := kN.cell 0
  have d1 := kN.cell 1
  have d2 := kN.cell 2
  have d3 := kN.cell 3
  have d4 := kN.cell 4
  have d5 := kN.cell 5
  have d6 := kN.cell 6
  have d7 := kN.cell 7
  have d8 := kN.cell 8
  have df := kN.free
  simp only [List.getElem?_cons_succ, List.getElem?_cons_zero] at c0 c1 c2 c3 c4 c5 c6 c7 c8 d0 d1 d2 d3 d4 d5 d6 d7 d8
  clear hb3 hb4 hb02 k3 kn ho ho0 kA kN
  go_wp2_with fail
  have k5 := HKA.out.setOther ⟨r2, 2, none⟩ (fun e => hne e.symm) (.slice va nal.length vc)
  have k9 := Blk.over ⟨nk, nn, .slice va nal.length vc, nal, nda, np, nf, nl, npv, nx⟩ k5 rfl
  have b9 := Below.over ⟨nk, nn, .slice va nal.length vc, nal, nda, np, nf, nl, npv, nx⟩ (HB4.out.setCell (p := ⟨r2, 2, none⟩) (by show w.heap.size ≤ r2; omega) (.slice va nal.length vc)) (Nat.le_refl w.heap.size)
  refine bodyPost_ret (res_nd (by rfl) (by rfl) k9) rfl ⟨.slice va nal.length vc, rfl, ?_, b9⟩
  refine own_kB HO.out (fun k hk => ?_)
  obtain ⟨cur, hcur⟩ := own_ty HO.out hk
  have n1 : k ≠ w.heap.size := fun e => by subst e; exact blk_ne hcur HKA.out (by decide) rfl
  have n2 : k ≠ r2 := fun e => by subst e; exact blk_ne hcur HKN.out (by decide) rfl
  have e1 : ∀ (wx : World) (j : Nat) (u : Value), (wx.setCell ⟨w.heap.size, j, none⟩ u).heap[k]? = wx.heap[k]? := fun wx j u => Below.heap_setCell _ _ _ _ n1
  have e2 : ∀ (wx : World) (j : Nat) (u : Value), (wx.setCell ⟨r2, j, none⟩ u).heap[k]? = wx.heap[k]? := fun wx j u => Below.heap_setCell _ _ _ _ n2
  simp only [e1, e2]
theorem node_some {B R : Nat} {S : Tr} {sv fv : Value} {w : World} (h : TAt B R S sv fv w) (hd : Int) (hh : HOk hd) {k : Nat} (hk : S.ix hd = some k) {n : Nd} (hn : S.slots[k]? = some (some n)) (hl : n.attrs.length ≤ 1000) :
    Calls Tryz.prog 79 #[.pointer (some ⟨R, 0, none⟩), .int .i64 hd] w fun e w' => ∃ v', e = .returned (.tuple #[.agg (ndC { n with av := v' }).toArray, .bool true]) ∧ w'.ownsRow w.heap.size 85 2 v' n.attrs.length (attrC n.attrs) ∧ Below w.heap.size w w' := by
  obtain ⟨_, hkl, _⟩ := ix_some hk
  obtain ⟨g, cap, rfl⟩ := slots_some h (by omega)
  exact node_x (R := R) n true hd (fun wx hb => get_some (h.below hb) hd hh hk hn) (h.attrs k n hn) hl h.blk.free h.blk.lt
theorem attr_kind {B R g cap : Nat} {S : Tr} {fv : Value} {w : World} {K d} (h : TAt B R S (.slice (some ⟨g, 0, none⟩) S.slots.length cap) fv w) (hL : Lk S K d) (i : Nat) (n : Nd) (hi : S.at i = some n) (hk : n.kind ≠ 2) (x : ByteArray) :
    Calls Tryz.prog 44 #[.pointer (some ⟨R, 0, none⟩), .int .i64 (S.hd i), .string x] w fun e w' => e = .returned (.tuple #[.string ⟨#[]⟩, .bool false]) ∧ Below w.heap.size w w' := by
  have HA := Lib.hid (element_no h hL i n hi hk)
  clear h hi
  go_enter Tryz.func44, Tryz.ntmps44
  go_wp2_with fail
  refine HA.out.mono ?_
  rintro e w2 ⟨rfl, hb⟩
  go_wp2_with fail
  go_ret2
  exact ⟨rfl, hb⟩
set_option maxRecDepth 100000 in
set_option maxHeartbeats 2000000 in
theorem attr_el {B R g cap : Nat} {S : Tr} {fv : Value} {w : World} {K d} (h : TAt B R S (.slice (some ⟨g, 0, none⟩) S.slots.length cap) fv w) (hL : Lk S K d) (i : Nat) (n : Nd) (hi : S.at i = some n) (hk : n.kind = 2) (hl : n.attrs.length ≤ 1000) (x : List UInt8) :
    Calls Tryz.prog 44 #[.pointer (some ⟨R, 0, none⟩), .int .i64 (S.hd i), .string ⟨x.toArray⟩] w fun e w' => Below w.heap.size w w' ∧
      ((nmOf n.attrs x = -1 ∧ e = .returned (.tuple #[.string ⟨#[]⟩, .bool false])) ∨ ∃ (k : Nat) (y : Atr), nmOf n.attrs x = (k : Int) ∧ n.attrs[k]? = some y ∧ e = .returned (.tuple #[.string ⟨y.2.toArray⟩, .bool true])) := by
  have HE := Lib.hid (element_el h hL i n hi hk)
  have HN := Lib.hid (fun wx (hb : Below w.heap.size w wx) => named_any (h.below hb) i n hi x hl)
  have hAt := h.attrs i n (at_slot hi)
  obtain ⟨nk, nn, nav, nal, nda, np, nf, nl, npv, nx⟩ := n
  obtain ⟨av, acap, hav, hcs⟩ := hAt
  simp only [] at hav hcs hl
  subst hav
  have HS := Lib.hid (fun wx (hb : Below w.heap.size w wx) => (show wx.cell? ⟨g, i * 10 + 3, none⟩ = some (.slice av nal.length acap) from slot_cell (h.below hb) (at_slot hi) 3 (by omega)))
  have HCs := Lib.hid hcs
  clear h hi hcs
  simp only [strV] at HN
  go_enter Tryz.func44, Tryz.ntmps44
  go_wp2_with fail
  refine HE.out.mono ?_
  rintro e w2 ⟨rfl, hb2⟩
  go_wp2_with fail
  refine (HN.out w2 hb2).mono ?_
  rintro e w3 ⟨rfl, hb3⟩
  have HB3 := Lib.hid (bthen hb2 hb3)
  clear hb2 hb3
  by_cases hneg : nmOf nal x = -1
  · have HNg := Lib.hid hneg
    rw [hneg]
    clear hneg
    go_wp2_with fail
    go_ret2
    exact ⟨HB3.out, .inl ⟨HNg.out, rfl⟩⟩
  · obtain ⟨k, y, hk1, hk2⟩ : ∃ (k : Nat) (y : Atr), nmOf nal x = (k : Int) ∧ nal[k]? = some y := by
      unfold nmOf at hneg ⊢
      cases e : nal.findIdx? (fun y => y.1 == x) with
      | none => rw [e] at hneg; exact absurd rfl hneg
      | some k =>
        obtain ⟨hlt, _⟩ := List.findIdx?_eq_some_iff_getElem.1 e
        exact ⟨k, _, rfl, List.getElem?_eq_getElem hlt⟩
    have HK1 := Lib.hid hk1
    rw [hk1]
    clear hk1
    rcases HCs.out with rfl | ⟨vg, cur, rfl, _, hg, hc⟩
    · cases hk2
    have hgl := lt_of_block hg
    have c3 := HS.out w3 HB3.out
    have cv : w3.cell? ⟨vg, k * 2 + 1, none⟩ = some (.string ⟨y.2.toArray⟩) := by
      rw [HB3.out.cell (p := ⟨vg, k * 2 + 1, none⟩) hgl, show k * 2 + 1 = 2 * k + 1 by omega, Lib.cell_of_heap hg]
      exact (hc k y hk2).2
    have hkl := (List.getElem?_eq_some_iff.1 hk2).1
    have hki : (k : Int) < (nal.length : Int) := by omega
    have HK := Lib.hid hk2
    have hg3 := Nat.lt_of_lt_of_le hgl HB3.out.size
    clear hg hc hk2 hneg
    unfold na
    go_wp2_with fail
    go_ret2
    exact ⟨HB3.out, .inr ⟨k, y, HK1.out, HK.out, rfl⟩⟩
def attL (l : List Atr) (x : List UInt8) : Option (List UInt8) := (l.find? fun y => y.1 == x).map (·.2)
def attV (n : Nd) (x : List UInt8) : Option (List UInt8) := if n.kind = 2 then attL n.attrs x else none
theorem nmOf_att {l : List Atr} {x : List UInt8} : (nmOf l x = -1 ∧ attL l x = none) ∨ ∃ (k : Nat) (y : Atr), nmOf l x = (k : Int) ∧ l[k]? = some y ∧ attL l x = some y.2 := by
  unfold nmOf attL
  cases e : l.findIdx? (fun y => y.1 == x) with
  | none =>
    refine .inl ⟨rfl, ?_⟩
    rw [List.findIdx?_eq_none_iff] at e
    rw [List.find?_eq_none.2 (fun y hy => by have := e y hy; simpa using this)]
    rfl
  | some k =>
    obtain ⟨hlt, h1, h2⟩ := List.findIdx?_eq_some_iff_getElem.1 e
    refine .inr ⟨k, l[k], rfl, List.getElem?_eq_getElem hlt, ?_⟩
    have : l.find? (fun y => y.1 == x) = some l[k] := by
      rw [List.find?_eq_some_iff_getElem]
      exact ⟨h1, k, hlt, rfl, fun j hj => by have := h2 j hj; simpa using this⟩
    rw [this]; rfl
theorem attr_at {B R : Nat} {S : Tr} {sv fv : Value} {w : World} {K d} (h : TAt B R S sv fv w) (hL : Lk S K d) (i : Nat) (n : Nd) (hi : S.at i = some n) (hl : n.attrs.length ≤ 1000) (x : List UInt8) :
    Calls Tryz.prog 44 #[.pointer (some ⟨R, 0, none⟩), .int .i64 (S.hd i), .string ⟨x.toArray⟩] w fun e w' => e = .returned (.tuple #[.string ⟨((attV n x).getD []).toArray⟩, .bool (attV n x).isSome]) ∧ Below w.heap.size w w' := by
  obtain ⟨g, cap, rfl⟩ := slots_some h (by have := at_lt hi; omega)
  by_cases hk : n.kind = 2
  · refine (attr_el h hL i n hi hk hl x).mono ?_
    rintro e w' ⟨hb, hx⟩
    unfold attV
    rw [if_pos hk]
    rcases hx with ⟨h1, rfl⟩ | ⟨k, y, h1, h2, rfl⟩
    · rcases nmOf_att (l := n.attrs) (x := x) with ⟨_, e⟩ | ⟨k, y, e, _⟩
      · rw [e]; exact ⟨rfl, hb⟩
      · rw [h1] at e; omega
    · rcases nmOf_att (l := n.attrs) (x := x) with ⟨e, _⟩ | ⟨k', y', e, e2, e3⟩
      · rw [h1] at e; omega
      · have : k' = k := by rw [h1] at e; omega
        subst this
        rw [h2] at e2; cases e2
        rw [e3]; exact ⟨rfl, hb⟩
  · refine (attr_kind h hL i n hi hk ⟨x.toArray⟩).mono ?_
    rintro e w' ⟨rfl, hb⟩
    unfold attV
    rw [if_neg hk]
    exact ⟨rfl, hb⟩
def sInput : List UInt8 := [105, 110, 112, 117, 116]
def sArea : List UInt8 := [116, 101, 120, 116, 97, 114, 101, 97]
def sButton : List UInt8 := [98, 117, 116, 116, 111, 110]
def sType : List UInt8 := [116, 121, 112, 101]
def sCheck : List UInt8 := [99, 104, 101, 99, 107, 98, 111, 120]
def sRadio : List UInt8 := [114, 97, 100, 105, 111]
def sHidden : List UInt8 := [104, 105, 100, 100, 101, 110]
def sSubmit : List UInt8 := [115, 117, 98, 109, 105, 116]
def sValue : List UInt8 := [118, 97, 108, 117, 101]
def kindI (t : List UInt8) : Nat := if t = sCheck then 3 else if t = sRadio then 4 else if t = sHidden then 5 else if t = sSubmit then 6 else if t = sButton then 7 else 1
def kindF (nm : List UInt8) (t : Option (List UInt8)) : Nat :=
  if nm = sInput then kindI (t.getD []) else if nm = sArea then 2 else if nm = sButton then (if t.isSome = false ∨ t.getD [] = sSubmit then 6 else 7) else 0
def kindN (n : Nd) : Nat := kindF n.name (attV n sType)
set_option maxRecDepth 100000 in
set_option maxHeartbeats 4000000 in
theorem kind_any {B R : Nat} {S : Tr} {sv fv : Value} {w : World} {K d} (h : TAt B R S sv fv w) (hL : Lk S K d) (i : Nat) (n : Nd) (hi : S.at i = some n) (hl : n.attrs.length ≤ 1000) :
    Calls Tryz.prog 31 #[.pointer (some ⟨R, 0, none⟩), .int .i64 (S.hd i)] w fun e w' => e = .returned (.int .i64 (kindN n : Int)) ∧ Below w.heap.size w w' := by
  have HN := Lib.hid (node_some h (S.hd i) (hd_ok hL hi).1 (hd_ix hL hi) (at_slot hi) hl)
  have HA := Lib.hid (fun wx (hb : Below w.heap.size w wx) => attr_at (h.below hb) hL i n hi hl sType)
  unfold kindN
  clear h hi
  generalize attV n sType = t at *
  obtain ⟨nk, nm, nav, nal, nda, np, nf, nl, npv, nx⟩ := n
  simp only at HN ⊢
  clear hl
  go_enter Tryz.func31, Tryz.ntmps31
  go_wp2_with fail
  refine HN.out.mono ?_
  rintro e w1 ⟨v', rfl, ho, hb1⟩
  obtain ⟨va, vc, rfl⟩ := own_shapeB ho
  clear ho
  simp only [ndC, strV]
  have hb2 := hb1.alloc hb1.size (.cells #[.int .i64 nk, .string ⟨nm.toArray⟩, .slice va nal.length vc, .string ⟨nda.toArray⟩, .int .i64 np, .int .i64 nf, .int .i64 nl, .int .i64 npv, .int .i64 nx] 135)
  have kn := Blk.new w1 [.int .i64 nk, .string ⟨nm.toArray⟩, .slice va nal.length vc, .string ⟨nda.toArray⟩, .int .i64 np, .int .i64 nf, .int .i64 nl, .int .i64 npv, .int .i64 nx] 135
  go_wp2_with fail
  refine (HA.out _ hb2).mono ?_
  rintro e w2 ⟨rfl, hb3⟩
  have c1 := (kn.below hb3).cell 1
  simp only [List.getElem?_cons_zero, List.getElem?_cons_succ] at c1
  have HB := Lib.hid (bthen hb2 hb3)
  clear hb1 hb2 hb3 kn HN HA
  cases t with
  | none =>
    simp only [Option.getD_none, Option.isSome_none] at *
    go_wp2_with fail
    all_goals go_ret
    all_goals (
      refine ⟨?_, HB.out⟩
      unfold kindF kindI sInput sArea sButton sCheck sRadio sHidden sSubmit
      simp_all)
  | some x =>
    simp only [Option.getD_some, Option.isSome_some] at *
    go_wp2_with fail
    all_goals go_ret
    all_goals (
      refine ⟨?_, HB.out⟩
      unfold kindF kindI sInput sArea sButton sCheck sRadio sHidden sSubmit
      simp_all)
end Go.Proofs.YtacdbnhnhdlmpaaGreatDoor.W
end
