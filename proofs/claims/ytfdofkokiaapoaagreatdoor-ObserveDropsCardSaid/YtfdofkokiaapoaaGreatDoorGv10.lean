/- Texts joined: Cells Doc Wat WatB. -/
import Derived.Test.YtfdofkokiaapoaaGreatDoorGv6
import Derived.Test.YtfdofkokiaapoaaGreatDoorGv9
import Derived.Deep.RegionLaw
section
/- Slices of records: the cells of a list of records. No program in sight. -/
namespace Go.Proofs.YtfdofkokiaapoaaGreatDoor.W
open Go.RowKit
set_option linter.unusedVariables false

/-- cells written one after the other -/
def setAll : List Value → Nat → List Value → List Value
  | l, _, [] => l
  | l, o, x :: r => setAll (l.set o x) (o + 1) r
theorem setAll_skip (pre rest : List Value) : ∀ (bs : List Value) (o : Nat), setAll (pre ++ rest) (pre.length + o) bs = pre ++ setAll rest o bs := by
  intro bs
  induction bs generalizing rest with
  | nil => intro o; rfl
  | cons b bs ih =>
    intro o
    simp only [setAll]
    rw [List.set_append_right _ _ (by omega), show pre.length + o - pre.length = o by omega, show pre.length + o + 1 = pre.length + (o + 1) by omega]
    exact ih _ _
theorem setAll_head : ∀ (xs bs rest : List Value), xs.length = bs.length → setAll (xs ++ rest) 0 bs = bs ++ rest := by
  intro xs
  induction xs with
  | nil => intro bs rest h; cases bs with | nil => rfl | cons b bs => simp at h
  | cons a xs ih =>
    intro bs rest h
    cases bs with
    | nil => simp at h
    | cons b bs =>
      simp only [setAll, List.cons_append, List.set_cons_zero]
      have := setAll_skip [b] (xs ++ rest) bs 0
      simp only [List.cons_append, List.nil_append, List.length_cons, List.length_nil, Nat.zero_add, Nat.add_zero] at this
      rw [Nat.zero_add, this, ih bs rest (by simpa using h)]
variable {α : Type} {enc : α → List Value} {m : Nat}
/-- the cells of records -/
def rows (enc : α → List Value) : List α → List Value
  | [] => []
  | x :: r => enc x ++ rows enc r
theorem rows_append (l r : List α) : rows enc (l ++ r) = rows enc l ++ rows enc r := by
  induction l with
  | nil => rfl
  | cons x l ih => simp [rows, ih]
theorem rows_snoc (l : List α) (x : α) : rows enc (l ++ [x]) = rows enc l ++ enc x := by rw [rows_append]; simp [rows]
theorem rows_len (he : ∀ v, (enc v).length = m) (l : List α) : (rows enc l).length = l.length * m := by
  induction l with
  | nil => simp [rows]
  | cons x l ih => simp [rows, ih, he, Nat.succ_mul]; omega
theorem rows_at (he : ∀ v, (enc v).length = m) (l : List α) (i : Nat) (x : α) (h : l[i]? = some x) (j : Nat) (hj : j < m) : (rows enc l)[i * m + j]? = (enc x)[j]? := by
  induction l generalizing i with
  | nil => simp at h
  | cons y l ih =>
    cases i with
    | zero =>
      simp at h
      subst h
      rw [Nat.zero_mul, Nat.zero_add]
      simp only [rows]
      rw [List.getElem?_append_left (by rw [he]; exact hj)]
    | succ i =>
      simp at h
      simp only [rows]
      rw [List.getElem?_append_right (by rw [he, Nat.succ_mul]; omega), he, show (i + 1) * m + j - m = i * m + j by rw [Nat.succ_mul]; omega]
      exact ih i h
theorem rows_set (he : ∀ v, (enc v).length = m) (l : List α) (i : Nat) (x : α) (hi : i < l.length) : rows enc (l.set i x) = setAll (rows enc l) (i * m) (enc x) := by
  induction l generalizing i with
  | nil => simp at hi
  | cons y l ih =>
    cases i with
    | zero =>
      rw [Nat.zero_mul]
      simp only [rows, List.set_cons_zero]
      rw [setAll_head _ _ _ (by rw [he, he])]
    | succ i =>
      have := setAll_skip (enc y) (rows enc l) (enc x) (i * m)
      rw [he] at this
      simp only [rows, List.set_cons_succ]
      rw [show (i + 1) * m = m + i * m by rw [Nat.succ_mul]; omega, this, ← ih i (by simpa using hi)]
/-- one cell of one record written -/
theorem rows_field (he : ∀ v, (enc v).length = m) (l : List α) (i j : Nat) (x x' : α) (u : Value) (h : l[i]? = some x) (hj : j < m) (hx : enc x' = (enc x).set j u) : rows enc (l.set i x') = (rows enc l).set (i * m + j) u := by
  induction l generalizing i with
  | nil => simp at h
  | cons y l ih =>
    cases i with
    | zero =>
      simp at h
      subst h
      rw [Nat.zero_mul, Nat.zero_add]
      simp only [rows, List.set_cons_zero]
      rw [List.set_append_left _ _ (by rw [he]; exact hj), hx]
    | succ i =>
      simp at h
      simp only [rows, List.set_cons_succ]
      rw [List.set_append_right _ _ (by rw [he, Nat.succ_mul]; omega), he, show (i + 1) * m + j - m = i * m + j by rw [Nat.succ_mul]; omega, ih i h]
theorem set_mid (l1 : List α) (x x' : α) (l2 : List α) : (l1 ++ x :: l2).set l1.length x' = l1 ++ x' :: l2 := by
  rw [List.set_append_right _ _ (Nat.le_refl _)]; simp
theorem get_mid (l1 : List α) (x : α) (l2 : List α) : (l1 ++ x :: l2)[l1.length]? = some x := by
  rw [List.getElem?_append_right (Nat.le_refl _)]; simp
theorem rows_one (h1 : ∀ v, ∀ u ∈ enc v, u.oneCell' = true) (l : List α) : ∀ u ∈ rows enc l, u.oneCell' = true := by
  induction l with
  | nil => simp [rows]
  | cons x l ih =>
    intro u hu
    simp only [rows, List.mem_append] at hu
    rcases hu with hu | hu
    · exact h1 x u hu
    · exact ih u hu
end Go.Proofs.YtfdofkokiaapoaaGreatDoor.W
end
section
/- A small document in memory, as one object; plain: what an operation leaves. -/
namespace Go.Proofs.YtfdofkokiaapoaaGreatDoor.W
open Go.RowKit
set_option linter.unusedVariables false
set_option linter.unusedSimpArgs false

/-- a record -/
structure Rc where
  kind : Int
  target : Int
  node : Int
  prev : Int
  next : Int
  index : Int
  name : List UInt8
  old : List UInt8
  had : Bool
  count : Int
  size : Int
def encR (r : Rc) : List Value := recC r.kind r.target r.node r.prev r.next r.index r.name r.old r.had r.count r.size
theorem encR_len (r : Rc) : (encR r).length = 11 := rfl
theorem encR_one (r : Rc) : ∀ u ∈ encR r, u.oneCell' = true := by
  intro u hu
  simp only [encR, recC, List.mem_cons, List.not_mem_nil, or_false] at hu
  rcases hu with rfl | rfl | rfl | rfl | rfl | rfl | rfl | rfl | rfl | rfl | rfl <;> rfl
/-- a slice of records -/
abbrev rl (v : Value) (l : List Rc) : Ob := sl 86 11 v l.length (rows encR l)
theorem rows_flat (l : List Rc) : (l.map encR).flatten = rows encR l := by
  induction l with
  | nil => rfl
  | cons x l ih => simp only [List.map_cons, List.flatten_cons, rows, ih]

/-- the blocks of a tree -/
def trF (R : Nat) (S : Tr) (sv fv : Value) (k : Nat) : Prop := k = R ∨ sv.ownBlock = some k ∨ fv.ownBlock = some k ∨ ∃ i n, S.at i = some n ∧ n.attrs ≠ [] ∧ n.av.ownBlock = some k
theorem attr_blk {B : Nat} {w : World} {v : Value} {l : List Atr} (h : AttrAt B w v l) (hl : l ≠ []) {k : Nat} (hk : v.ownBlock = some k) : ∃ cur, w.heap[k]? = some (.cells cur 118 (0, 0)) := by
  obtain ⟨a, c, rfl, h'⟩ := h
  rcases h' with e | ⟨g, cur, rfl, _, hh, _⟩
  · exact absurd e hl
  · cases hk; exact ⟨cur, hh⟩
theorem trF_ty {R : Nat} {S : Tr} {sv fv : Value} {w : World} (h : TAt 0 R S sv fv w) {k : Nat} (hk : trF R S sv fv k) : ∃ cur t, w.heap[k]? = some (.cells cur t (0, 0)) ∧ t ≠ 86 := by
  rcases hk with rfl | hk | hk | ⟨i, n, hi, hne, hk⟩
  · exact ⟨_, _, h.blk, by decide⟩
  · obtain ⟨cur, hc⟩ := own_ty h.slots hk
    exact ⟨cur, _, hc, by decide⟩
  · obtain ⟨cur, hc⟩ := own_ty h.free hk
    exact ⟨cur, _, hc, by decide⟩
  · obtain ⟨cur, hc⟩ := attr_blk (h.attrs i n (at_slot hi)) hne hk
    exact ⟨cur, _, hc, by decide⟩
/-- a tree as an object -/
def trO (R : Nat) (S : Tr) (sv fv : Value) : Ob where
  P := fun w => TAt 0 R S sv fv w
  F := trF R S sv fv
  here := fun w h k hk => by obtain ⟨cur, t, hc, _⟩ := trF_ty h hk; exact lt_of_block hc
  loc := fun w w' h k => by
    have keep : ∀ {e sz n : Nat} {v : Value} {xs : List Value}, w.ownsRow 0 e sz v n xs → (∀ g, v.ownBlock = some g → trF R S sv fv g) → w'.ownsRow 0 e sz v n xs := fun ho hf => own_kB ho (fun g hg => k g (hf g hg))
    refine ⟨h.blk.kept (k R (.inl rfl)), keep h.slots (fun g hg => .inr (.inl hg)), keep h.free (fun g hg => .inr (.inr (.inl hg))), fun i n hi => ?_, h.base, h.few⟩
    obtain ⟨a, c, e, h'⟩ := h.attrs i n hi
    by_cases hne : n.attrs = []
    · exact ⟨a, c, e, .inl hne⟩
    · rcases h' with e' | ⟨g, cur, e2, hB, hg, hc⟩
      · exact absurd e' hne
      · exact ⟨a, c, e, .inr ⟨g, cur, e2, hB, (k g (.inr (.inr (.inr ⟨i, n, at_of hi, hne, by rw [e, e2]; rfl⟩)))).trans hg, hc⟩⟩

/-- one object acts, and another one is made -/
theorem All.stepNew {B : Nat} {w0 w w' : World} {o o' x : Ob} {l : List Ob} (h : All B w0 (o :: l) w) (hp : o'.P w') (hx : x.P w') (hc : Chg o.F w w') (hk : ∀ k, o'.F k → o.F k ∨ w.heap.size ≤ k) (hn : ∀ k, x.F k → w.heap.size ≤ k) (hap : ∀ k, x.F k → ¬ o'.F k) : All B w0 (x :: o' :: l) w' := by
  have h1 := h.step [] (l2 := l) hp hc hk
  simp only [List.nil_append] at h1
  refine ⟨?_, ?_, ?_, h1.below, h1.le⟩
  · intro y hy
    rcases List.mem_cons.1 hy with rfl | hy
    · exact hx
    · exact h1.P y hy
  · rw [List.pairwise_cons]
    refine ⟨fun y hy k h2 h3 => ?_, h1.apart⟩
    rcases List.mem_cons.1 hy with rfl | hy
    · exact hap k h2 h3
    · have := hn k h2
      have := y.here w (h.P y (by simp [hy])) k h3
      omega
  · intro y hy k h2
    rcases List.mem_cons.1 hy with rfl | hy
    · exact Nat.le_trans h.le (hn k h2)
    · exact h1.base y hy k h2

/-- a small document: N nodes beside the document itself, nothing was ever dropped -/
structure Dc (S : Tr) (K : Nat → List Nat) (d : Nat → Nat) (N : Nat) : Prop where
  lk : Lk S K d
  free : S.free = []
  used : ∀ i, i < S.slots.length → (S.at i).isSome = true
  root : S.root = S.hd 0
  doc : ∃ n, S.at 0 = some n ∧ n.kind = 1
  el : ∀ i n, i ≠ 0 → S.at i = some n → n.kind = 2 ∨ n.kind = 3
  sz : ∀ i n, S.at i = some n → n.attrs.length ≤ 64 ∧ n.data.length ≤ 1048576
  len : S.slots.length = N + 1

/-- the fields that links do not touch -/
def Keeps (f : Nat → Nd → Nd) : Prop := ∀ x n, (f x n).kind = n.kind ∧ (f x n).av = n.av ∧ (f x n).attrs = n.attrs ∧ (f x n).data = n.data
theorem Dc.map {S S' : Tr} {K K' d d'} {N : Nat} (h : Dc S K d N) (f : Nat → Nd → Nd) (hf : Keeps f) (hat : ∀ x, S'.at x = (S.at x).map (f x)) (hlen : S'.slots.length = S.slots.length) (hb : S'.b = S.b) (hs : S'.s = S.s) (hfr : S'.free = S.free) (hr : S'.root = S.root) (hL : Lk S' K' d') : Dc S' K' d' N := by
  have hhd : ∀ x, S'.hd x = S.hd x := fun x => by unfold Tr.hd; rw [hb, hs]
  have back : ∀ {i n'}, S'.at i = some n' → ∃ n, S.at i = some n ∧ n'.kind = n.kind ∧ n'.attrs = n.attrs ∧ n'.data = n.data := fun {i n'} hi => by
    rw [hat] at hi
    obtain ⟨n, hn, rfl⟩ := Option.map_eq_some_iff.1 hi
    obtain ⟨h1, _, h3, h4⟩ := hf i n
    exact ⟨n, hn, h1, h3, h4⟩
  refine ⟨hL, hfr.trans h.free, fun i hi => ?_, by rw [hr, hhd]; exact h.root, ?_, fun i n' hi0 hi => ?_, fun i n' hi => ?_, hlen.trans h.len⟩
  · have := h.used i (hlen ▸ hi)
    rw [hat]
    cases e : S.at i with
    | none => rw [e] at this; cases this
    | some n => rfl
  · obtain ⟨n, hn, hk⟩ := h.doc
    exact ⟨f 0 n, by rw [hat, hn]; rfl, by rw [(hf 0 n).1]; exact hk⟩
  · obtain ⟨n, hn, h1, _⟩ := back hi
    rw [h1]; exact h.el i n hi0 hn
  · obtain ⟨n, hn, _, h2, h3⟩ := back hi
    rw [h2, h3]; exact h.sz i n hn
theorem trF_map {R : Nat} {S S' : Tr} {sv fv : Value} (f : Nat → Nd → Nd) (hf : Keeps f) (hat : ∀ x, S'.at x = (S.at x).map (f x)) (k : Nat) (h : trF R S' sv fv k) : trF R S sv fv k := by
  rcases h with h | h | h | ⟨i, n', hi, hne, hk⟩
  · exact .inl h
  · exact .inr (.inl h)
  · exact .inr (.inr (.inl h))
  · rw [hat] at hi
    obtain ⟨n, hn, rfl⟩ := Option.map_eq_some_iff.1 hi
    obtain ⟨_, h2, h3, _⟩ := hf i n
    exact .inr (.inr (.inr ⟨i, n, hn, by rw [← h3]; exact hne, by rw [← h2]; exact hk⟩))
theorem keeps_link (S : Tr) (l : List Nat) (p j c : Nat) : Keeps (linkN S l p j c) := fun _ _ => ⟨rfl, rfl, rfl, rfl⟩
theorem keeps_cut (S : Tr) (l : List Nat) (p j c : Nat) : Keeps (cutN S l p j c) := fun _ _ => ⟨rfl, rfl, rfl, rfl⟩
/-- a node with other contents: the links stay -/
theorem Lk.put {S : Tr} {K d} (h : Lk S K d) {i : Nat} {n n' : Nd} (hi : S.at i = Option.some n) (h1 : n'.parent = n.parent) (h2 : n'.first = n.first) (h3 : n'.last = n.last) (h4 : n'.prev = n.prev) (h5 : n'.next = n.next) : Lk (S.put i n') K d := by
  have hO' : ∀ o, hO (S.put i n') o = hO S o := fun o => by cases o <;> rfl
  have hsome : ∀ x, ((S.put i n').at x).isSome = (S.at x).isSome := fun x => by
    rw [at_put hi]
    by_cases e : x = i
    · subst e; rw [if_pos rfl, hi]; rfl
    · rw [if_neg e]
  have back : ∀ {x m}, (S.put i n').at x = Option.some m → ∃ m0, S.at x = Option.some m0 ∧ m.parent = m0.parent ∧ m.first = m0.first ∧ m.last = m0.last ∧ m.prev = m0.prev ∧ m.next = m0.next := fun {x m} hx => by
    rw [at_put hi] at hx
    by_cases e : x = i
    · subst e
      rw [if_pos rfl] at hx
      cases hx
      exact ⟨n, hi, h1, h2, h3, h4, h5⟩
    · rw [if_neg e] at hx
      exact ⟨m, hx, rfl, rfl, rfl, rfl, rfl⟩
  refine ⟨fun p k hk => by rw [hsome, hsome]; exact h.kin p k hk, ?_, ?_, ?_, h.nodup, h.dep, fun x hx hp => h.one x (by rw [hsome] at hx; exact hx) hp, h.low, by rw [put_len]; exact h.few⟩
  · intro x m hx
    obtain ⟨m0, e0, e1, e2, e3, e4, e5⟩ := back hx
    rw [hO', hO', e2, e3]
    exact h.node x m0 e0
  · intro p j k m hk hm
    obtain ⟨m0, e0, e1, e2, e3, e4, e5⟩ := back hm
    rw [hO', hO', hd_put, e1, e4, e5]
    exact h.kid p j k m0 hk e0
  · intro x m hx hp
    obtain ⟨m0, e0, e1, e2, e3, e4, e5⟩ := back hx
    rw [e1, e4, e5]
    exact h.top x m0 e0 hp
theorem Dc.put {S : Tr} {K d} {N : Nat} (h : Dc S K d N) {i : Nat} {n n' : Nd} (hi : S.at i = some n) (h0 : n'.kind = n.kind) (h1 : n'.parent = n.parent) (h2 : n'.first = n.first) (h3 : n'.last = n.last) (h4 : n'.prev = n.prev) (h5 : n'.next = n.next)
    (ha : n'.attrs.length ≤ 64) (hd : n'.data.length ≤ 1048576) : Dc (S.put i n') K d N := by
  refine ⟨h.lk.put hi h1 h2 h3 h4 h5, h.free, fun x hx => ?_, h.root, ?_, fun x m hx0 hx => ?_, fun x m hx => ?_, (put_len _ _ _).trans h.len⟩
  · rw [put_len] at hx
    rw [at_put hi]
    by_cases e : x = i
    · rw [if_pos e]; rfl
    · rw [if_neg e]; exact h.used x hx
  · obtain ⟨m, hm, hk⟩ := h.doc
    by_cases e : (0 : Nat) = i
    · subst e
      rw [hi] at hm
      cases hm
      exact ⟨n', by rw [at_put hi, if_pos rfl], by rw [h0]; exact hk⟩
    · exact ⟨m, by rw [at_put hi, if_neg e]; exact hm, hk⟩
  · rw [at_put hi] at hx
    by_cases e : x = i
    · subst e
      rw [if_pos rfl] at hx
      cases hx
      rw [h0]; exact h.el x n hx0 hi
    · rw [if_neg e] at hx; exact h.el x m hx0 hx
  · rw [at_put hi] at hx
    by_cases e : x = i
    · subst e
      rw [if_pos rfl] at hx
      cases hx
      exact ⟨ha, hd⟩
    · rw [if_neg e] at hx; exact h.sz x m hx
end Go.Proofs.YtfdofkokiaapoaaGreatDoor.W
end
section
/- The observers of mutations in memory; observer, Create. -/
namespace Go.Proofs.YtfdofkokiaapoaaGreatDoor.W
open Go.RowKit
set_option linter.unusedVariables false
set_option linter.unusedSimpArgs false

/-- a watch; fv is the slice of its filter -/
structure Wt where
  target : Int
  kids : Bool
  attrs : Bool
  data : Bool
  sub : Bool
  old : Bool
  flt : List (List UInt8)
  fv : Value
def encW (x : Wt) : List Value := [.int .i64 x.target, .bool x.kids, .bool x.attrs, .bool x.data, .bool x.sub, .bool x.old, x.fv]
theorem encW_len (x : Wt) : (encW x).length = 7 := rfl
/-- what a filter's slice holds -/
abbrev FltAt (w : World) (x : Wt) : Prop := Own w 9 1 x.fv x.flt.length (x.flt.map strV)
/-- a slice of watches, with their filters -/
def wl (v : Value) (l : List Wt) : Ob where
  P := fun w => Own w 58 7 v l.length (rows encW l) ∧ ∀ x ∈ l, FltAt w x
  F := fun k => v.ownBlock = some k ∨ ∃ x ∈ l, x.fv.ownBlock = some k
  here := fun w h k hk => by
    rcases hk with hk | ⟨x, hx, hk⟩
    · exact own_lt h.1 hk
    · exact own_lt (h.2 x hx) hk
  loc := fun w w' h k => ⟨own_kept h.1 (fun g hg => k g (.inl hg)), fun x hx => own_kept (h.2 x hx) (fun g hg => k g (.inr ⟨x, hx, hg⟩))⟩
theorem All.nilW {B : Nat} {w0 w : World} {l : List Ob} (h : All B w0 l w) : All B w0 (wl (.slice none 0 0) [] :: l) w :=
  h.new (o := wl (.slice none 0 0) []) ⟨World.ownsRow_nil _ _ _ _, fun x hx => by cases hx⟩ (Below.refl _ _) (by rintro k (hk | ⟨x, hx, _⟩); cases hk; cases hx)
/-- an observer -/
structure Ov where
  id : Int
  cb : Int
  ws : List Wt
  rs : List Rc
abbrev Oz := Ov × Value × Value
def encO (x : Oz) : List Value := [.int .i64 x.1.id, .int .i64 x.1.cb, x.2.1, x.2.2]
theorem encO_len (x : Oz) : (encO x).length = 4 := rfl
def obM (zs : List Oz) : List Ob := zs.flatMap fun x => [wl x.2.1 x.1.ws, rl x.2.2 x.1.rs]
theorem obM_split (z1 : List Oz) (x : Oz) (z2 : List Oz) (l : List Ob) : obM (z1 ++ x :: z2) ++ l = obM z1 ++ (wl x.2.1 x.1.ws :: rl x.2.2 x.1.rs :: (obM z2 ++ l)) := by simp [obM]
/-- the objects of a State without observers of sizes -/
def stM (g : Nat) (zv : Value) (nx : Int) (zs : List Oz) : List Ob := bk g [zv, .slice none 0 0, .int .i64 nx] 34 :: sl 60 4 zv zs.length (rows encO zs) :: obM zs
theorem etO : ET Tryz.prog 31 60 4 64 := ET.mk' (z := .agg #[.int .i64 0, .int .i64 0, .slice none 0 0, .slice none 0 0]) Tryz.underlying31 (by kernel_rfl) rfl (by decide)
def intOf : Value → Int
  | .int _ n => n
  | _ => 0

/-- the place of an observer -/
def OzR (w : World) (zs : List Oz) (id : Int) (iv : Value) (wr : World) : Prop := ∃ k : Nat, k ≤ zs.length ∧ iv = .int .i64 (k : Int) ∧ (∀ j z, j < k → zs[j]? = some z → z.1.id ≠ id) ∧ w = wr

set_option maxRecDepth 100000 in
theorem observer_at {B : Nat} {w0 w : World} {g zg zc : Nat} {nx : Int} {z1 z2 : List Oz} {z : Oz} {l : List Ob} (h : All B w0 (stM g (.slice (some ⟨zg, 0, none⟩) (z1 ++ z :: z2).length zc) nx (z1 ++ z :: z2) ++ l) w) (hn : ∀ y ∈ z1, y.1.id ≠ z.1.id) (hl : (z1 ++ z :: z2).length ≤ 1000000) :
    Calls Tryz.prog 41 #[.pointer (some ⟨g, 0, none⟩), .int .i64 z.1.id] w fun e w' => e = .returned (.pointer (some ⟨zg, z1.length * 4, none⟩)) ∧ w = w' := by
  have hb : Blk _ _ _ _ := h.head
  have hs : Own _ _ _ _ _ _ := h.tail.head
  have c1 := hb.cell 0
  simp only [List.getElem?_cons_zero, List.getElem?_cons_succ] at c1
  have HS := Lib.hid hs
  have HN := Lib.hid hn
  have hlt : z1.length < (z1 ++ z :: z2).length := by simp
  have hcell : ∀ k y, (z1 ++ z :: z2)[k]? = some y → w.cell? ⟨zg, k * 4, none⟩ = some (.int .i64 y.1.id) := fun k y hy => by
    have h1 := hs.cellAt (k * 4) (by have := (List.getElem?_eq_some_iff.1 hy).1; omega)
    have h2 := rows_at (enc := encO) encO_len _ k y hy 0 (by decide)
    rw [Nat.add_zero] at h2
    rw [h1, h2]
    rfl
  have HC := Lib.hid hcell
  clear hb hs h hn hcell
  obtain ⟨n, hnn⟩ : ∃ n, (z1 ++ z :: z2).length = n := ⟨_, rfl⟩
  rw [hnn] at c1 hlt hl
  have HNN := Lib.hid hnn
  clear hnn
  go_enter Tryz.func41, Tryz.ntmps41
  go_wp2_with fail
  go_loop [11] (fun iv => ∃ k : Nat, k ≤ z1.length ∧ iv = .int .i64 (k : Int)) (fun iv => n - (intOf iv).toNat)
  case atStart => exact ⟨0, Nat.zero_le _, rfl⟩
  case round =>
    obtain ⟨k, hk, rfl⟩ := hrel
    by_cases hkl : k < z1.length
    · have hy : (z1 ++ z :: z2)[k]? = some z1[k] := by rw [List.getElem?_append_left hkl, List.getElem?_eq_getElem hkl]
      have q0 := HC.out k _ hy
      have hne := HN.out z1[k] (List.getElem_mem hkl)
      generalize z1[k].1.id = y at *
      have e1 : (y == z.1.id) = false := by simpa using hne
      clear hy hne
      go_wp2_with fail
      go_round
      case rel => exact ⟨k + 1, by omega, by go_num⟩
      case measure => simp [intOf]; omega
    · obtain rfl : k = z1.length := by omega
      have q0 := HC.out z1.length z (get_mid z1 z z2)
      go_wp2_with fail
      go_ret
      exact ⟨rfl, rfl⟩

set_option maxRecDepth 100000 in
theorem observer_no {B : Nat} {w0 w : World} {g : Nat} {zv : Value} {nx : Int} {zs : List Oz} {l : List Ob} (h : All B w0 (stM g zv nx zs ++ l) w) (id : Int) (hn : ∀ y ∈ zs, y.1.id ≠ id) (hl : zs.length ≤ 1000000) :
    Calls Tryz.prog 41 #[.pointer (some ⟨g, 0, none⟩), .int .i64 id] w fun e w' => e = .returned (.pointer none) ∧ w = w' := by
  have hb : Blk _ _ _ _ := h.head
  have hs : Own _ _ _ _ _ _ := h.tail.head
  obtain ⟨za, zc, rfl⟩ := own_shape hs
  have c1 := hb.cell 0
  simp only [List.getElem?_cons_zero, List.getElem?_cons_succ] at c1
  have HS := Lib.hid hs
  have HN := Lib.hid hn
  clear hb hs h hn
  go_enter Tryz.func41, Tryz.ntmps41
  go_wp2_with fail
  go_loop [11] (fun iv => ∃ k : Nat, k ≤ zs.length ∧ iv = .int .i64 (k : Int)) (fun iv => zs.length - (intOf iv).toNat)
  case atStart => exact ⟨0, Nat.zero_le _, rfl⟩
  case round =>
    obtain ⟨k, hk, rfl⟩ := hrel
    by_cases hkl : k < zs.length
    · have hy : zs[k]? = some zs[k] := List.getElem?_eq_getElem hkl
      obtain ⟨zg, zc', he, _⟩ := own_some HS.out (by omega)
      simp only [Value.slice.injEq] at he
      obtain ⟨rfl, _, rfl⟩ := he
      have q0 := HS.out.cellAt (k * 4) (by omega)
      have q1 := rows_at (enc := encO) encO_len _ k _ hy 0 (by decide)
      rw [Nat.add_zero] at q1
      rw [q1] at q0
      simp only [encO, List.getElem?_cons_zero] at q0
      have hne := HN.out zs[k] (List.getElem_mem hkl)
      generalize zs[k].1.id = y at *
      have e1 : (y == id) = false := by simpa using hne
      clear hy hne q1
      go_wp2_with fail
      go_round
      case rel => exact ⟨k + 1, by omega, by go_num⟩
      case measure => simp [intOf]; omega
    · go_wp2_with fail
      go_ret
      exact ⟨rfl, rfl⟩

theorem perm_in (A B C L : List Ob) : (A ++ (B ++ (C ++ L))).Perm (B ++ (C ++ (A ++ L))) :=
  (List.perm_append_comm_assoc A B (C ++ L)).trans (List.Perm.append_left B (List.perm_append_comm_assoc A C L))

set_option maxRecDepth 100000 in
set_option maxHeartbeats 1000000 in
theorem create_ob {B : Nat} {w0 w : World} {g : Nat} {zv : Value} {nx : Int} {zs : List Oz} {l : List Ob} (h : All B w0 (stM g zv nx zs ++ l) w) (cb : Int) (n0 : 0 ≤ nx) (n1 : nx ≤ 1000000) (hl : zs.length ≤ 1000000) :
    Calls Tryz.prog 24 #[.pointer (some ⟨g, 0, none⟩), .int .i64 cb] w fun e w' => ∃ zv', e = .returned (.int .i64 (nx + 1)) ∧ All B w0 (stM g zv' (nx + 1) (zs ++ [(⟨nx + 1, cb, [], []⟩, .slice none 0 0, .slice none 0 0)]) ++ l) w' := by
  have hs : Own _ _ _ _ _ _ := h.tail.head
  obtain ⟨za, zc, rfl⟩ := own_shape hs
  have hA1 := h.setBk [] 2 (.int .i64 (nx + 1))
  have hb0 : Blk _ _ _ _ := h.head
  have a1 := hb0.cell 0
  have a2 := hb0.cell 2
  have af := hb0.free
  have hlt0 := hb0.lt
  simp at a1 a2
  have hb : Blk _ _ _ _ := hA1.head
  have c1 := hb.cell 0
  have c2 := hb.cell 2
  have hlt := hb.lt
  simp only [List.set_cons_succ, List.set_cons_zero, List.getElem?_cons_zero, List.getElem?_cons_succ] at c1 c2
  have HA := Lib.hid hA1
  clear h hs hb hb0 hA1
  go_enter Tryz.func24, Tryz.ntmps24
  go_wp2_with fail
  clear a1 a2 af hlt0
  generalize w.setCell ⟨g, 2, none⟩ (.int .i64 (nx + 1)) = W at *
  have ea : ∀ o, (W.alloc o).cell? ⟨g, 0, none⟩ = some (.slice za zs.length zc) := fun o => (World.cell?_alloc_lt _ _ _ hlt).trans c1
  go_region_law (first
    | (refine step_append_all etO [_] (HA.out.drew.alloc (.cells #[.int .i64 (nx + 1), .int .i64 cb, .slice none 0 0, .slice none 0 0] 60)) (own_at (n := 1) (size := 4) (Blk.new W.drew [.int .i64 (nx + 1), .int .i64 cb, .slice none 0 0, .slice none 0 0] 60) rfl (by omega)) (by intro u hu; simp at hu; rcases hu with rfl | rfl | rfl | rfl <;> rfl) (by omega) (by omega) (by rfl) _ _ (by rfl) (by rfl) (by rfl) ?_; intro v' w2 hA2; have ho : Own _ _ _ _ _ _ := hA2.tail.head; obtain ⟨va, vc, rfl⟩ := own_shape ho; have b2 : Blk _ _ _ _ := hA2.head; have d1 := b2.cell 0; have d2 := b2.cell 2; have df := b2.free; simp only [List.set_cons_succ, List.set_cons_zero, List.getElem?_cons_zero, List.getElem?_cons_succ] at d1 d2; have HB := Lib.hid hA2; clear hA2 ho b2))
  all_goals
    go_wp2_with fail
    go_ret
    refine ⟨.slice va (zs.length + 1) vc, rfl, ?_⟩
    have h9 := ((HB.out.setBk [] 0 (.slice va (zs.length + 1) vc)).nil 86 11).nilW
    have h10 := h9.perm (perm_in [_, _] [_, _] (obM zs) l)
    unfold stM
    rw [List.length_append, rows_snoc]
    simp [obM, encO] at h10 ⊢
    exact h10
end Go.Proofs.YtfdofkokiaapoaaGreatDoor.W
end
section
/- Watches: the place of a target; Watch of a target that is not watched yet (no filter). -/
namespace Go.Proofs.YtfdofkokiaapoaaGreatDoor.W
open Go.RowKit
set_option linter.unusedVariables false
set_option linter.unusedSimpArgs false

theorem stM_split (g : Nat) (zv : Value) (nx : Int) (z1 : List Oz) (z : Oz) (z2 : List Oz) (l : List Ob) :
    stM g zv nx (z1 ++ z :: z2) ++ l = [bk g [zv, .slice none 0 0, .int .i64 nx] 34, sl 60 4 zv (z1 ++ z :: z2).length (rows encO (z1 ++ z :: z2))] ++ obM z1 ++ (wl z.2.1 z.1.ws :: rl z.2.2 z.1.rs :: (obM z2 ++ l)) := by
  unfold stM
  simp only [List.cons_append, List.nil_append]
  rw [obM_split]
/-- a field of an observer written: the watches -/
theorem om_set2 {B : Nat} {w0 w : World} {g zg zc N : Nat} {nx : Int} {z1 z2 : List Oz} {z z' : Ov} {a b a' : Value} {l : List Ob}
    (h : All B w0 ([bk g [.slice (some ⟨zg, 0, none⟩) N zc, .slice none 0 0, .int .i64 nx] 34, sl 60 4 (.slice (some ⟨zg, 0, none⟩) N zc) N (rows encO (z1 ++ (z, a, b) :: z2))] ++ obM z1 ++ (wl a' z'.ws :: rl b z'.rs :: (obM z2 ++ l))) w)
    (hN : (z1 ++ (z, a, b) :: z2).length = N) (h1 : z'.id = z.id) (h2 : z'.cb = z.cb) : All B w0 (stM g (.slice (some ⟨zg, 0, none⟩) N zc) nx (z1 ++ (z', a', b) :: z2) ++ l) (w.setCell ⟨zg, z1.length * 4 + 2, none⟩ a') := by
  rw [stM_split]
  have hr := rows_field (enc := encO) encO_len (z1 ++ (z, a, b) :: z2) z1.length 2 _ (z', a', b) a' (get_mid _ _ _) (by decide) (by simp [encO, h1, h2])
  rw [set_mid] at hr
  have hN' : (z1 ++ (z', a', b) :: z2).length = N := by rw [← hN]; simp
  rw [hr, hN']
  exact h.setSl [_] (z1.length * 4 + 2) a'
/-- a field of an observer written: the records -/
theorem om_set3 {B : Nat} {w0 w : World} {g zg zc N : Nat} {nx : Int} {z1 z2 : List Oz} {z z' : Ov} {a b b' : Value} {l : List Ob}
    (h : All B w0 ([bk g [.slice (some ⟨zg, 0, none⟩) N zc, .slice none 0 0, .int .i64 nx] 34, sl 60 4 (.slice (some ⟨zg, 0, none⟩) N zc) N (rows encO (z1 ++ (z, a, b) :: z2))] ++ obM z1 ++ (wl a z'.ws :: rl b' z'.rs :: (obM z2 ++ l))) w)
    (hN : (z1 ++ (z, a, b) :: z2).length = N) (h1 : z'.id = z.id) (h2 : z'.cb = z.cb) : All B w0 (stM g (.slice (some ⟨zg, 0, none⟩) N zc) nx (z1 ++ (z', a, b') :: z2) ++ l) (w.setCell ⟨zg, z1.length * 4 + 3, none⟩ b') := by
  rw [stM_split]
  have hr := rows_field (enc := encO) encO_len (z1 ++ (z, a, b) :: z2) z1.length 3 _ (z', a, b') b' (get_mid _ _ _) (by decide) (by simp [encO, h1, h2])
  rw [set_mid] at hr
  have hN' : (z1 ++ (z', a, b') :: z2).length = N := by rw [← hN]; simp
  rw [hr, hN']
  exact h.setSl [_] (z1.length * 4 + 3) b'
/-- the cells of one observer -/
theorem om_cells {B : Nat} {w0 w : World} {g zg zc : Nat} {nx : Int} {z1 z2 : List Oz} {z : Ov} {a b : Value} {l : List Ob} (h : All B w0 (stM g (.slice (some ⟨zg, 0, none⟩) (z1 ++ (z, a, b) :: z2).length zc) nx (z1 ++ (z, a, b) :: z2) ++ l) w) :
    (w.cell? ⟨zg, z1.length * 4, none⟩ = some (.int .i64 z.id) ∧ w.cell? ⟨zg, z1.length * 4 + 1, none⟩ = some (.int .i64 z.cb) ∧ w.cell? ⟨zg, z1.length * 4 + 2, none⟩ = some a ∧ w.cell? ⟨zg, z1.length * 4 + 3, none⟩ = some b) ∧
    (∀ j, w.frozen? ⟨zg, j, none⟩ = false) ∧ zg < w.heap.size ∧ w.cell? ⟨g, 0, none⟩ = some (.slice (some ⟨zg, 0, none⟩) (z1 ++ (z, a, b) :: z2).length zc) ∧ w.cell? ⟨g, 1, none⟩ = some (.slice none 0 0) ∧ (wl a z.ws).P w ∧ Own w 86 11 b z.rs.length (rows encR z.rs) := by
  have hb : Blk _ _ _ _ := h.head
  have hr : Own _ _ _ _ _ _ := h.tail.head
  have c0 := hb.cell 0
  have c1 := hb.cell 1
  simp only [List.getElem?_cons_zero, List.getElem?_cons_succ] at c0 c1
  have hlt : z1.length * 4 + 4 ≤ (z1 ++ (z, a, b) :: z2).length * 4 := by simp; omega
  have r0 := rows_at (enc := encO) encO_len _ z1.length _ (get_mid z1 (z, a, b) z2) 0 (by decide)
  have r1 := rows_at (enc := encO) encO_len _ z1.length _ (get_mid z1 (z, a, b) z2) 1 (by decide)
  have r2 := rows_at (enc := encO) encO_len _ z1.length _ (get_mid z1 (z, a, b) z2) 2 (by decide)
  have r3 := rows_at (enc := encO) encO_len _ z1.length _ (get_mid z1 (z, a, b) z2) 3 (by decide)
  have q0 := hr.cellAt (z1.length * 4 + 0) (by omega)
  have q1 := hr.cellAt (z1.length * 4 + 1) (by omega)
  have q2 := hr.cellAt (z1.length * 4 + 2) (by omega)
  have q3 := hr.cellAt (z1.length * 4 + 3) (by omega)
  rw [r0] at q0
  rw [r1] at q1
  rw [r2] at q2
  rw [r3] at q3
  simp only [encO, List.getElem?_cons_zero, List.getElem?_cons_succ] at q0 q1 q2 q3
  have hA := h.P (wl a z.ws) (by rw [stM_split]; simp)
  have hB' : Own _ _ _ _ _ _ := h.P (rl b z.rs) (by rw [stM_split]; simp)
  exact ⟨⟨q0, q1, q2, q3⟩, fun j => hr.frozenAt j, own_lt hr (k := zg) rfl, c0, c1, hA, hB'⟩

/-- no filters -/
def NoF (ws : List Wt) : Prop := ∀ x ∈ ws, x.fv = .slice none 0 0 ∧ x.flt = []
theorem All.toSl {B : Nat} {w0 w : World} (l1 : List Ob) {l2 : List Ob} {v : Value} {ws : List Wt} (h : All B w0 (l1 ++ wl v ws :: l2) w) : All B w0 (l1 ++ sl 58 7 v ws.length (rows encW ws) :: l2) w :=
  h.step l1 (o' := sl 58 7 v ws.length (rows encW ws)) h.mid.1 (Chg.refl _ _) (fun k hk => .inl (.inl hk))
theorem All.toWl {B : Nat} {w0 w : World} (l1 : List Ob) {l2 : List Ob} {v : Value} {ws : List Wt} (hf : NoF ws) (h : All B w0 (l1 ++ sl 58 7 v ws.length (rows encW ws) :: l2) w) : All B w0 (l1 ++ wl v ws :: l2) w :=
  h.step l1 (o' := wl v ws) ⟨h.mid, fun x hx => by
    obtain ⟨h1, h2⟩ := hf x hx
    unfold FltAt
    rw [h1, h2]
    exact World.ownsRow_nil _ _ _ _⟩ (Chg.refl _ _) (fun k hk => .inl (by
    rcases hk with hk | ⟨x, hx, hk⟩
    · exact hk
    · rw [(hf x hx).1] at hk; cases hk))
theorem etW : ET Tryz.prog 35 58 7 40 := ET.mk' (z := .agg #[.int .i64 0, .bool false, .bool false, .bool false, .bool false, .bool false, .slice none 0 0]) Tryz.underlying35 (by kernel_rfl) rfl (by decide)

theorem watch1_any (t x : Int) (a b c d e : Bool) (f : Value) (g : Nat) (w : World) (hg : w.cell? ⟨g, 0, none⟩ = some (.int .i64 x)) (fa : Option Addr) (fn fc : Nat) (hf : f = .slice fa fn fc) :
    Calls Tryz.prog 64 #[.agg #[.int .i64 t, .bool a, .bool b, .bool c, .bool d, .bool e, f], .pointer (some ⟨g, 0, none⟩)] w fun e w' => e = .returned (.bool (t == x)) ∧ Below w.heap.size w w' := by
  subst hf
  have hlt : g < w.heap.size := World.block_lt_of_cell? w ⟨g, 0, none⟩ hg
  have hne : g ≠ w.heap.size := by omega
  go_enter Tryz.func64, Tryz.ntmps64
  go_wp2
  go_ret
  exact ⟨rfl, (Below.refl _ _).alloc (Nat.le_refl _) _⟩

set_option maxRecDepth 100000 in
set_option maxHeartbeats 2000000 in
theorem index_wt {w : World} {v : Value} {l : List Wt} {x : Int} {g : Nat} (h : Own w 58 7 v l.length (rows encW l)) (hf : ∀ y ∈ l, ∃ a n c, y.fv = .slice a n c) (hg : w.cell? ⟨g, 0, none⟩ = some (.int .i64 x)) (hl : l.length ≤ 2000000) (hno : ∀ y ∈ l, y.target ≠ x) :
    Calls Tryz.prog 63 #[v, .func (.func 64) #[] #[.pointer (some ⟨g, 0, none⟩)]] w fun e w' => e = .returned (.int .i64 (-1)) ∧ Below w.heap.size w w' := by
  have hlt : g < w.heap.size := World.block_lt_of_cell? w ⟨g, 0, none⟩ hg
  obtain ⟨va, vc, rfl⟩ := own_shape h
  have H := Lib.hid h
  have HG := Lib.hid hg
  have HF := Lib.hid hf
  have HNo := Lib.hid hno
  clear h hg hf hno
  go_enter Tryz.func63, Tryz.ntmps63
  go_wp2_with fail
  go_loopw [8] (fun iv wr => ∃ k : Nat, k ≤ l.length ∧ iv = .int .i64 (k : Int) ∧ Below w.heap.size w wr) (fun iv _ => l.length - (intOf iv).toNat)
  case atStart => exact ⟨0, Nat.zero_le _, rfl, Below.refl _ _⟩
  case round =>
    obtain ⟨k, hk, rfl, hB⟩ := hrel
    by_cases hkl : k < l.length
    · obtain ⟨y, hy⟩ : ∃ y, l[k]? = some y := ⟨_, List.getElem?_eq_getElem hkl⟩
      have hO := own_below H.out hB
      obtain ⟨vg, vc', he, _⟩ := own_some hO (by omega)
      simp only [Value.slice.injEq] at he
      obtain ⟨rfl, _, rfl⟩ := he
      have hq : ∀ j, j < 7 → wr.cell? ⟨vg, k * 7 + j, none⟩ = (encW y)[j]? := fun j hj => by
        rw [hO.cellAt (k * 7 + j) (by omega)]
        exact rows_at (enc := encW) encW_len l k y hy j hj
      have q0 := hq 0 (by omega)
      have q1 := hq 1 (by omega)
      have q2 := hq 2 (by omega)
      have q3 := hq 3 (by omega)
      have q4 := hq 4 (by omega)
      have q5 := hq 5 (by omega)
      have q6 := hq 6 (by omega)
      obtain ⟨fa, fn, fc, hfv⟩ := HF.out y (List.mem_of_getElem? hy)
      simp only [encW, hfv, List.getElem?_cons_zero, List.getElem?_cons_succ, Nat.add_zero] at q0 q1 q2 q3 q4 q5 q6
      have hc := (hB.cell (p := ⟨g, 0, none⟩) hlt).trans HG.out
      have HC := Lib.hid (watch1_any y.target x y.kids y.attrs y.data y.sub y.old (.slice fa fn fc) g wr hc fa fn fc rfl)
      have hyx := HNo.out y (List.mem_of_getElem? hy)
      have e1 : (y.target == x) = false := by simpa using hyx
      rw [e1] at HC
      clear hO hc hy e1 hyx hq hfv
      go_wp2_with fail
      refine HC.out.mono ?_
      rintro e w2 ⟨rfl, hb2⟩
      go_wp2_with fail
      go_roundw
      case rel => exact ⟨k + 1, by omega, by go_num, hB.trans (hb2.mono hB.size)⟩
      case measure => simp [intOf]; omega
    · go_wp2_with fail
      go_ret
      exact ⟨rfl, hB⟩
end Go.Proofs.YtfdofkokiaapoaaGreatDoor.W
end
