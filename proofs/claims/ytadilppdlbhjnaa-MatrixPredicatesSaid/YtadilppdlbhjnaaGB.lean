/- Texts PlainM, PlainM2, PlainM3, PlainM4, PlainM5, PlainM6, PlainM7, PlainM8 in one. -/
import Derived.Test.YtadilppdlbhjnaaGA
namespace Go.Proofs.Ytadilppdlbhjnaa
set_option linter.unusedSimpArgs false
set_option linter.unusedVariables false

/-- A cell of a matrix. -/
structure Cell where
  rank : Int
  ref : Int
deriving DecidableEq
/-- A rank with the references that two matrices have there. -/
structure Tri where
  rank : Int
  p : Int
  q : Int
deriving DecidableEq

/-- The reference of a rank: that of the first cell of it, or 1. -/
def mat : List Cell → Int → Int
  | [], _ => 1
  | x :: m, r => if x.rank = r then x.ref else mat m r
def put (m : List Cell) (r x : Int) : List Cell := if x = 1 then m else m ++ [⟨r, x⟩]
def Sorted (m : List Cell) : Prop := m.Pairwise fun x y => x.rank < y.rank
/-- A matrix of a circuit, with ranks below N. -/
structure MOk (c : List Gate) (N : Int) (m : List Cell) : Prop where
  sorted : Sorted m
  refs : ∀ x ∈ m, 0 ≤ x.ref ∧ x.ref < 2 * (c.length : Int) ∧ x.ref ≠ 1
  ranks : ∀ x ∈ m, 0 ≤ x.rank ∧ x.rank < N

theorem mat_mem {m : List Cell} {x : Cell} (hs : Sorted m) (h : x ∈ m) : mat m x.rank = x.ref := by
  induction m with
  | nil => cases h
  | cons y m ih =>
    rw [Sorted, List.pairwise_cons] at hs
    unfold mat
    rcases List.mem_cons.1 h with rfl | h
    · rw [if_pos rfl]
    · have := hs.1 x h
      rw [if_neg (by omega)]; exact ih hs.2 h
theorem mat_out {m : List Cell} {r : Int} (h : ∀ x ∈ m, x.rank ≠ r) : mat m r = 1 := by
  induction m with
  | nil => rfl
  | cons y m ih =>
    unfold mat
    rw [if_neg (h y (List.mem_cons_self ..))]; exact ih fun x hx => h x (List.mem_cons_of_mem _ hx)
theorem mat_cases (m : List Cell) (r : Int) : mat m r = 1 ∨ ∃ x ∈ m, x.rank = r ∧ mat m r = x.ref := by
  induction m with
  | nil => exact .inl rfl
  | cons y m ih =>
    unfold mat
    by_cases h : y.rank = r
    · rw [if_pos h]; exact .inr ⟨y, List.mem_cons_self .., h, rfl⟩
    · rw [if_neg h]
      rcases ih with h | ⟨x, hx, h1, h2⟩
      · exact .inl h
      · exact .inr ⟨x, List.mem_cons_of_mem _ hx, h1, h2⟩
theorem MOk.mat_in {c : List Gate} {N : Int} {m : List Cell} (h : MOk c N m) (hc : 0 < c.length) (r : Int) : 0 ≤ mat m r ∧ mat m r < 2 * (c.length : Int) := by
  rcases mat_cases m r with e | ⟨x, hx, _, e⟩
  · rw [e]; omega
  · rw [e]; have := h.refs x hx; omega
theorem MOk.up {c d : List Gate} {N : Int} {m : List Cell} (h : MOk c N m) (hl : c.length ≤ d.length) : MOk d N m :=
  ⟨h.sorted, fun x hx => by have := h.refs x hx; omega, h.ranks⟩

/-- Both matrices, rank by rank. -/
def mzipF : Nat → List Cell → List Cell → List Tri
  | 0, _, _ => []
  | _ + 1, [], [] => []
  | f + 1, x :: xs, [] => ⟨x.rank, x.ref, 1⟩ :: mzipF f xs []
  | f + 1, [], y :: ys => ⟨y.rank, 1, y.ref⟩ :: mzipF f [] ys
  | f + 1, x :: xs, y :: ys => if x.rank < y.rank then ⟨x.rank, x.ref, 1⟩ :: mzipF f xs (y :: ys) else if y.rank < x.rank then ⟨y.rank, 1, y.ref⟩ :: mzipF f (x :: xs) ys else ⟨x.rank, x.ref, y.ref⟩ :: mzipF f xs ys
def mzip (a b : List Cell) : List Tri := mzipF (a.length + b.length) a b
theorem mzipF_enough : ∀ (f g : Nat) (a b : List Cell), a.length + b.length ≤ f → a.length + b.length ≤ g → mzipF f a b = mzipF g a b
  | 0, 0, _, _, _, _ => rfl
  | 0, g + 1, a, b, h, _ => by
    have h1 : a = [] := List.eq_nil_of_length_eq_zero (by omega)
    have h2 : b = [] := List.eq_nil_of_length_eq_zero (by omega)
    subst h1 h2; rfl
  | f + 1, 0, a, b, _, h => by
    have h1 : a = [] := List.eq_nil_of_length_eq_zero (by omega)
    have h2 : b = [] := List.eq_nil_of_length_eq_zero (by omega)
    subst h1 h2; rfl
  | f + 1, g + 1, a, b, h, k => by
    match a, b with
    | [], [] => rfl
    | x :: xs, [] => simp only [mzipF]; rw [mzipF_enough f g xs [] (by simp at h ⊢; omega) (by simp at k ⊢; omega)]
    | [], y :: ys => simp only [mzipF]; rw [mzipF_enough f g [] ys (by simp at h ⊢; omega) (by simp at k ⊢; omega)]
    | x :: xs, y :: ys =>
      simp only [List.length_cons] at h k
      simp only [mzipF]
      rw [mzipF_enough f g xs (y :: ys) (by simp; omega) (by simp; omega), mzipF_enough f g (x :: xs) ys (by simp; omega) (by simp; omega), mzipF_enough f g xs ys (by omega) (by omega)]
theorem mzip_nil : mzip [] [] = [] := rfl
theorem mzip_left (x : Cell) (xs : List Cell) : mzip (x :: xs) [] = ⟨x.rank, x.ref, 1⟩ :: mzip xs [] := rfl
theorem mzip_right (y : Cell) (ys : List Cell) : mzip [] (y :: ys) = ⟨y.rank, 1, y.ref⟩ :: mzip [] ys := by
  show mzipF ([].length + (y :: ys).length) [] (y :: ys) = _
  rw [mzipF_enough _ (ys.length + 1) [] (y :: ys) (by simp) (by simp)]
  simp only [mzipF, mzip]; rw [mzipF_enough ys.length (([] : List Cell).length + ys.length) [] ys (by simp) (by simp)]
theorem mzip_cons (x y : Cell) (xs ys : List Cell) : mzip (x :: xs) (y :: ys) = if x.rank < y.rank then ⟨x.rank, x.ref, 1⟩ :: mzip xs (y :: ys) else if y.rank < x.rank then ⟨y.rank, 1, y.ref⟩ :: mzip (x :: xs) ys else ⟨x.rank, x.ref, y.ref⟩ :: mzip xs ys := by
  show mzipF ((x :: xs).length + (y :: ys).length) (x :: xs) (y :: ys) = _
  rw [mzipF_enough _ (xs.length + ys.length + 2) _ _ (by simp <;> omega) (by simp <;> omega)]
  simp only [mzipF, mzip]
  rw [mzipF_enough (xs.length + ys.length + 1) _ xs (y :: ys) (by simp <;> omega) (Nat.le_refl _), mzipF_enough (xs.length + ys.length + 1) _ (x :: xs) ys (by simp <;> omega) (Nat.le_refl _), mzipF_enough (xs.length + ys.length + 1) _ xs ys (by omega) (Nat.le_refl _)]
/-- an induction over two lists, as mzip goes -/
theorem mzip_ind {P : List Cell → List Cell → Prop} (h0 : P [] []) (h1 : ∀ x xs, P xs [] → P (x :: xs) []) (h2 : ∀ y ys, P [] ys → P [] (y :: ys))
    (h3 : ∀ x xs y ys, (x.rank < y.rank → P xs (y :: ys)) → (y.rank < x.rank → P (x :: xs) ys) → (x.rank = y.rank → P xs ys) → P (x :: xs) (y :: ys)) : ∀ a b, P a b := by
  have key : ∀ (f : Nat) (a b : List Cell), a.length + b.length ≤ f → P a b := by
    intro f
    induction f with
    | zero =>
      intro a b h
      have e1 : a = [] := List.eq_nil_of_length_eq_zero (by omega)
      have e2 : b = [] := List.eq_nil_of_length_eq_zero (by omega)
      subst e1 e2; exact h0
    | succ f ih =>
      intro a b h
      match a, b with
      | [], [] => exact h0
      | x :: xs, [] => exact h1 x xs (ih _ _ (by simp at h ⊢; omega))
      | [], y :: ys => exact h2 y ys (ih _ _ (by simp at h ⊢; omega))
      | x :: xs, y :: ys =>
        simp only [List.length_cons] at h
        exact h3 x xs y ys (fun _ => ih _ _ (by simp; omega)) (fun _ => ih _ _ (by simp; omega)) (fun _ => ih _ _ (by omega))
  exact fun a b => key _ a b (Nat.le_refl _)
theorem mzip_len (a b : List Cell) : (mzip a b).length ≤ a.length + b.length := by
  refine mzip_ind (P := fun a b => (mzip a b).length ≤ a.length + b.length) ?_ ?_ ?_ ?_ a b
  · simp [mzip_nil]
  · intro x xs ih; rw [mzip_left]; simp at ih ⊢; omega
  · intro y ys ih; rw [mzip_right]; simp at ih ⊢; omega
  · intro x xs y ys i1 i2 i3
    rw [mzip_cons]
    split
    · rename_i h; have := i1 h; simp at this ⊢; omega
    · split
      · rename_i h; have := i2 h; simp at this ⊢; omega
      · have := i3 (by omega); simp at this ⊢; omega
theorem Sorted.tail {x : Cell} {m : List Cell} (h : Sorted (x :: m)) : Sorted m := (List.pairwise_cons.1 h).2
theorem Sorted.lt {x : Cell} {m : List Cell} (h : Sorted (x :: m)) : ∀ y ∈ m, x.rank < y.rank := (List.pairwise_cons.1 h).1
end Go.Proofs.Ytadilppdlbhjnaa

namespace Go.Proofs.Ytadilppdlbhjnaa
set_option linter.unusedSimpArgs false
set_option linter.unusedVariables false

/-- An operation on references: what it keeps and what it denotes. -/
structure OpOk (op : List Gate → Int → Int → List Gate × Int) (f : Bool → Bool → Bool) : Prop where
  keeps : ∀ {c p q}, Good c → c.length < 20000 → 0 ≤ p → p < 2 * (c.length : Int) → 0 ≤ q → q < 2 * (c.length : Int) → Keeps c (op c p q) 1
  val : ∀ {c p q} (V : List Bool), Good c → c.length < 20000 → 0 ≤ p → p < 2 * (c.length : Int) → 0 ≤ q → q < 2 * (c.length : Int) → cv (op c p q).1 V (op c p q).2 = f (cv c V p) (cv c V q)
def cbut (c : List Gate) (p q : Int) : List Gate × Int := cand c p (cnot q)
theorem ok_and : OpOk cand (fun x y => x && y) := ⟨fun h1 h2 h3 h4 h5 h6 => keeps_and h1 h2 h3 h4 h5 h6, fun V h1 h2 h3 h4 h5 h6 => and_val V h1 h2 h3 h4 h5 h6⟩
theorem ok_or : OpOk cor (fun x y => x || y) := ⟨fun h1 h2 h3 h4 h5 h6 => keeps_or h1 h2 h3 h4 h5 h6, fun V h1 h2 h3 h4 h5 h6 => or_val V h1 h2 h3 h4 h5 h6⟩
theorem ok_but : OpOk cbut (fun x y => x && !y) :=
  ⟨fun h1 h2 h3 h4 h5 h6 => keeps_and h1 h2 h3 h4 (cnot_bounds h5 h6).1 (cnot_bounds h5 h6).2,
   fun V h1 h2 h3 h4 h5 h6 => by show cv (cand _ _ _).1 V (cand _ _ _).2 = _; rw [and_val V h1 h2 h3 h4 (cnot_bounds h5 h6).1 (cnot_bounds h5 h6).2, cv_not h5]⟩
theorem Grow.of_keeps {c : List Gate} {r : List Gate × Int} {k : Nat} (h : Keeps c r k) : Grow c r.1 k := ⟨h.good, h.ext, h.len⟩
theorem Grow.refl {c : List Gate} (h : Good c) (k : Nat) : Grow c c k := ⟨h, List.prefix_refl _, by omega⟩
theorem Grow.more {c d : List Gate} {k m : Nat} (h : Grow c d k) (hk : k ≤ m) : Grow c d m := ⟨h.good, h.pre, by have := h.len; omega⟩
/-- a reference of a circuit -/
def In (c : List Gate) (r : Int) : Prop := 0 ≤ r ∧ r < 2 * (c.length : Int)
theorem In.up {c d : List Gate} {r : Int} {k : Nat} (h : In c r) (g : Grow c d k) : In d r := ⟨h.1, by have := h.2; have := g.ge; omega⟩
theorem In.cv {c d : List Gate} {r : Int} {k : Nat} (h : In c r) (g : Grow c d k) (V : List Bool) : Go.Proofs.Ytadilppdlbhjnaa.cv d V r = Go.Proofs.Ytadilppdlbhjnaa.cv c V r := cv_ext g.pre h.1 h.2
theorem in_1 {c : List Gate} (h : 0 < c.length) : In c 1 := ⟨by omega, by omega⟩
theorem in_0 {c : List Gate} (h : 0 < c.length) : In c 0 := ⟨by omega, by omega⟩
theorem OpOk.one {op : List Gate → Int → Int → List Gate × Int} {f : Bool → Bool → Bool} (h : OpOk op f) {c : List Gate} {p q : Int} (hg : Good c) (hl : c.length < 20000) (hp : In c p) (hq : In c q) : Grow c (op c p q).1 1 ∧ In (op c p q).1 (op c p q).2 ∧ ∀ V, cv (op c p q).1 V (op c p q).2 = f (cv c V p) (cv c V q) := by
  have k := h.keeps hg hl hp.1 hp.2 hq.1 hq.2
  exact ⟨.of_keeps k, ⟨k.low, k.high⟩, fun V => h.val V hg hl hp.1 hp.2 hq.1 hq.2⟩

/-- one step of a combination rank by rank -/
def zstep (op : List Gate → Int → Int → List Gate × Int) (x : List Gate × List Cell) (t : Tri) : List Gate × List Cell := ((op x.1 t.p t.q).1, put x.2 t.rank (op x.1 t.p t.q).2)
def zrun (op : List Gate → Int → Int → List Gate × Int) (l : List Tri) (x : List Gate × List Cell) : List Gate × List Cell := l.foldl (zstep op) x
def mUnion (c : List Gate) (a b : List Cell) : List Gate × List Cell := zrun cor (mzip a b) (c, [])
def mInter (c : List Gate) (a b : List Cell) : List Gate × List Cell := zrun cand (mzip a b) (c, [])
theorem put_sorted {m : List Cell} {r x : Int} (h : Sorted m) (hr : ∀ y ∈ m, y.rank < r) : Sorted (put m r x) := by
  unfold put; split
  · exact h
  · exact List.pairwise_append.2 ⟨h, List.pairwise_singleton _ _, fun a ha b hb => by rw [List.mem_singleton.1 hb]; exact hr a ha⟩
theorem mem_put {m : List Cell} {r x : Int} {y : Cell} (h : y ∈ put m r x) : y ∈ m ∨ (y = ⟨r, x⟩ ∧ x ≠ 1) := by
  unfold put at h; split at h
  · exact .inl h
  · rename_i hx
    rcases List.mem_append.1 h with h | h
    · exact .inl h
    · exact .inr ⟨List.mem_singleton.1 h, hx⟩
theorem MOk.put {c : List Gate} {N r x : Int} {m : List Cell} (h : MOk c N m) (hr : ∀ y ∈ m, y.rank < r) (h0 : 0 ≤ r) (hN : r < N) (hx : In c x) : MOk c N (put m r x) := by
  refine ⟨put_sorted h.sorted hr, fun y hy => ?_, fun y hy => ?_⟩
  · rcases mem_put hy with hy | ⟨rfl, h1⟩
    · exact h.refs y hy
    · exact ⟨hx.1, hx.2, h1⟩
  · rcases mem_put hy with hy | ⟨rfl, _⟩
    · exact h.ranks y hy
    · exact ⟨h0, hN⟩
theorem MOk.nil {c : List Gate} {N : Int} : MOk c N [] := ⟨.nil, by simp, by simp⟩
theorem MOk.mat_in' {c : List Gate} {N : Int} {m : List Cell} (h : MOk c N m) (hg : Good c) (r : Int) : In c (mat m r) := h.mat_in hg.ne r
theorem mat_up {c d : List Gate} {N : Int} {m : List Cell} {k : Nat} (h : MOk c N m) (hg : Good c) (g : Grow c d k) (V : List Bool) (r : Int) : cv d V (mat m r) = cv c V (mat m r) := (h.mat_in' hg r).cv g V

end Go.Proofs.Ytadilppdlbhjnaa

namespace Go.Proofs.Ytadilppdlbhjnaa
set_option linter.unusedSimpArgs false
set_option linter.unusedVariables false

/-- Strictly increasing lists with the same members are equal. -/
theorem sl_ext : ∀ {l m : List Int}, l.Pairwise (· < ·) → m.Pairwise (· < ·) → (∀ r, r ∈ l ↔ r ∈ m) → l = m
  | [], [], _, _, _ => rfl
  | [], y :: m, _, _, h => absurd ((h y).2 (List.mem_cons_self ..)) (by simp)
  | x :: l, [], _, _, h => absurd ((h x).1 (List.mem_cons_self ..)) (by simp)
  | x :: l, y :: m, hl, hm, h => by
    obtain ⟨h1, h2⟩ := List.pairwise_cons.1 hl
    obtain ⟨k1, k2⟩ := List.pairwise_cons.1 hm
    have e : x = y := by
      rcases List.mem_cons.1 ((h x).1 (List.mem_cons_self ..)) with e | e
      · exact e
      · rcases List.mem_cons.1 ((h y).2 (List.mem_cons_self ..)) with e' | e'
        · exact e'.symm
        · have := k1 x e; have := h1 y e'; omega
    subst e
    rw [sl_ext h2 k2 fun r => ?_]
    constructor
    · intro hr
      rcases List.mem_cons.1 ((h r).1 (List.mem_cons_of_mem _ hr)) with e | e
      · have := h1 r hr; omega
      · exact e
    · intro hr
      rcases List.mem_cons.1 ((h r).2 (List.mem_cons_of_mem _ hr)) with e | e
      · have := k1 r hr; omega
      · exact e

/-- the cells of a function on ranks -/
def gather (ks : List Int) (S : Int → Int) : List Cell := ks.foldl (fun m r => put m r (S r)) []
theorem gather_snoc (ks : List Int) (r : Int) (S : Int → Int) : gather (ks ++ [r]) S = put (gather ks S) r (S r) := by simp [gather, List.foldl_append]
theorem gather_eq (ks : List Int) (S : Int → Int) : gather ks S = (ks.filter fun r => S r != 1).map fun r => ⟨r, S r⟩ := by
  have key : ∀ (ks : List Int) (m : List Cell), ks.foldl (fun m r => put m r (S r)) m = m ++ (ks.filter fun r => S r != 1).map fun r => ⟨r, S r⟩ := by
    intro ks
    induction ks with
    | nil => intro m; simp
    | cons k ks ih =>
      intro m
      simp only [List.foldl_cons]
      rw [ih]
      unfold put
      by_cases h : S k = 1
      · rw [if_pos h, List.filter_cons_of_neg (by simp [h])]
      · rw [if_neg h, List.filter_cons_of_pos (by simp [h])]; simp
  exact (key ks []).trans (by simp)
theorem gather_ext {ks ks' : List Int} {S : Int → Int} (h : ks.Pairwise (· < ·)) (h' : ks'.Pairwise (· < ·)) (e : ∀ r, S r ≠ 1 → (r ∈ ks ↔ r ∈ ks')) : gather ks S = gather ks' S := by
  rw [gather_eq, gather_eq, sl_ext (l := ks.filter fun r => S r != 1) (m := ks'.filter fun r => S r != 1) (h.filter _) (h'.filter _) fun r => ?_]
  rw [List.mem_filter, List.mem_filter]
  constructor
  · rintro ⟨h1, h2⟩; exact ⟨(e r (by simpa using h2)).1 h1, h2⟩
  · rintro ⟨h1, h2⟩; exact ⟨(e r (by simpa using h2)).2 h1, h2⟩
theorem gather_mem {ks : List Int} {S : Int → Int} {x : Cell} (h : x ∈ gather ks S) : x.rank ∈ ks ∧ x.ref = S x.rank ∧ x.ref ≠ 1 := by
  rw [gather_eq] at h
  obtain ⟨r, hr, rfl⟩ := List.mem_map.1 h
  obtain ⟨h1, h2⟩ := List.mem_filter.1 hr
  exact ⟨h1, rfl, by simpa using h2⟩
theorem gather_sorted {ks : List Int} {S : Int → Int} (h : ks.Pairwise (· < ·)) : Sorted (gather ks S) := by
  rw [gather_eq]
  exact List.pairwise_map.2 (h.filter _)
def ranksTo (N : Nat) : List Int := (List.range N).map Int.ofNat
theorem ranksTo_sl (N : Nat) : (ranksTo N).Pairwise (· < ·) := by
  unfold ranksTo
  rw [List.pairwise_map]
  exact List.pairwise_lt_range.imp fun h => by show ((_ : Nat) : Int) < ((_ : Nat) : Int); omega
theorem mem_ranksTo {N : Nat} {r : Int} : r ∈ ranksTo N ↔ 0 ≤ r ∧ r < (N : Int) := by
  unfold ranksTo
  rw [List.mem_map]
  constructor
  · rintro ⟨k, hk, rfl⟩; have := List.mem_range.1 hk; exact ⟨by show (0 : Int) ≤ ((k : Nat) : Int); omega, by show ((k : Nat) : Int) < _; omega⟩
  · rintro ⟨h1, h2⟩; exact ⟨r.toNat, List.mem_range.2 (by omega), by show ((r.toNat : Nat) : Int) = r; omega⟩

/-- the matching pairs of a join, in the loops' order -/
def jpairs (n p : Int) (a b : List Cell) : List Tri := a.flatMap fun x => (b.filter fun y => x.rank % n == y.rank / p).map fun y => ⟨x.rank / n * p + y.rank % p, x.ref, y.ref⟩
def jstep (x : List Gate × (Int → Int)) (t : Tri) : List Gate × (Int → Int) :=
  ((cor (cand x.1 t.p t.q).1 (x.2 t.rank) (cand x.1 t.p t.q).2).1, fun r => if r = t.rank then (cor (cand x.1 t.p t.q).1 (x.2 t.rank) (cand x.1 t.p t.q).2).2 else x.2 r)
def jrun (l : List Tri) (x : List Gate × (Int → Int)) : List Gate × (Int → Int) := l.foldl jstep x
def mJoin (c : List Gate) (N : Nat) (n p : Int) (a b : List Cell) : List Gate × List Cell := ((jrun (jpairs n p a b) (c, fun _ => 1)).1, gather (ranksTo N) (jrun (jpairs n p a b) (c, fun _ => 1)).2)
theorem jrun_ok : ∀ (l : List Tri) (c : List Gate) (S : Int → Int), Good c → c.length + 2 * l.length ≤ 20000 → (∀ r, In c (S r)) → (∀ t ∈ l, In c t.p ∧ In c t.q) →
    Grow c (jrun l (c, S)).1 (2 * l.length) ∧ (∀ r, In (jrun l (c, S)).1 ((jrun l (c, S)).2 r)) ∧ (∀ V r, cv (jrun l (c, S)).1 V ((jrun l (c, S)).2 r) = (cv c V (S r) || l.any fun t => t.rank == r && (cv c V t.p && cv c V t.q))) ∧
      ∀ r, (∀ t ∈ l, t.rank ≠ r) → (jrun l (c, S)).2 r = S r
  | [], c, S, hg, _, hS, _ => ⟨.refl hg _, hS, fun V r => by simp [jrun], fun r _ => rfl⟩
  | t :: l, c, S, hg, hl, hS, ht => by
    simp only [List.length_cons] at hl
    obtain ⟨hp, hq⟩ := ht t (List.mem_cons_self ..)
    obtain ⟨g1, i1, v1⟩ := ok_and.one hg (by omega) hp hq
    have l1 := g1.len
    obtain ⟨g2, i2, v2⟩ := ok_or.one g1.good (by omega) ((hS t.rank).up g1) i1
    have l2 := g2.len
    have g3 := g1.trans g2
    have e : jrun (t :: l) (c, S) = jrun l (jstep (c, S) t) := rfl
    rw [e]
    obtain ⟨a1, a2, a3, a4⟩ := jrun_ok l (jstep (c, S) t).1 (jstep (c, S) t).2 g2.good (by show (cor (cand c t.p t.q).1 (S t.rank) (cand c t.p t.q).2).1.length + 2 * l.length ≤ 20000; omega)
      (fun r => by
        show In _ (if r = t.rank then _ else _)
        split
        · exact i2
        · exact (hS r).up g3) (fun s hs => ⟨(ht s (List.mem_cons_of_mem _ hs)).1.up g3, (ht s (List.mem_cons_of_mem _ hs)).2.up g3⟩)
    refine ⟨(g3.trans a1).more (by simp; omega), a2, fun V r => ?_, fun r hr => ?_⟩
    · have e1 : ∀ s ∈ l, (s.rank == r && (cv (jstep (c, S) t).1 V s.p && cv (jstep (c, S) t).1 V s.q)) = (s.rank == r && (cv c V s.p && cv c V s.q)) := fun s hs => by
        obtain ⟨h1, h2⟩ := ht s (List.mem_cons_of_mem _ hs)
        rw [show cv (jstep (c, S) t).1 V s.p = cv c V s.p from h1.cv g3 V, show cv (jstep (c, S) t).1 V s.q = cv c V s.q from h2.cv g3 V]
      have e2 : l.any (fun s => s.rank == r && (cv (jstep (c, S) t).1 V s.p && cv (jstep (c, S) t).1 V s.q)) = l.any (fun s => s.rank == r && (cv c V s.p && cv c V s.q)) := by
        rw [Bool.eq_iff_iff, List.any_eq_true, List.any_eq_true]
        constructor
        · rintro ⟨s, hs, h⟩; exact ⟨s, hs, by rw [← e1 s hs]; exact h⟩
        · rintro ⟨s, hs, h⟩; exact ⟨s, hs, by rw [e1 s hs]; exact h⟩
      rw [a3 V r, e2, List.any_cons]
      have hv : cv (jstep (c, S) t).1 V ((jstep (c, S) t).2 r) = (cv c V (S r) || (t.rank == r && (cv c V t.p && cv c V t.q))) := by
        show cv (cor (cand c t.p t.q).1 (S t.rank) (cand c t.p t.q).2).1 V (if r = t.rank then (cor (cand c t.p t.q).1 (S t.rank) (cand c t.p t.q).2).2 else S r) = _
        by_cases h : r = t.rank
        · rw [if_pos h, v2 V, v1 V, (hS t.rank).cv g1 V, h]; simp
        · rw [if_neg h, (hS r).cv g3 V]
          have : (t.rank == r) = false := by simp; omega
          rw [this]; simp
      rw [hv, Bool.or_assoc]
    · rw [a4 r fun s hs => hr s (List.mem_cons_of_mem _ hs)]
      show (if r = t.rank then _ else _) = _
      rw [if_neg fun h => hr t (List.mem_cons_self ..) h.symm]
theorem jpairs_len (n p : Int) (a b : List Cell) : (jpairs n p a b).length ≤ a.length * b.length := by
  induction a with
  | nil => simp [jpairs]
  | cons x a ih =>
    have h1 : (jpairs n p (x :: a) b).length = (b.filter fun y => x.rank % n == y.rank / p).length + (jpairs n p a b).length := by simp [jpairs]
    have h2 : (b.filter fun y => x.rank % n == y.rank / p).length ≤ b.length := List.length_filter_le _ _
    rw [h1, List.length_cons, Nat.succ_mul]; omega
theorem mem_jpairs {n p : Int} {a b : List Cell} {t : Tri} : t ∈ jpairs n p a b ↔ ∃ x ∈ a, ∃ y ∈ b, x.rank % n = y.rank / p ∧ t = ⟨x.rank / n * p + y.rank % p, x.ref, y.ref⟩ := by
  simp only [jpairs, List.mem_flatMap, List.mem_map, List.mem_filter, beq_iff_eq]
  constructor
  · rintro ⟨x, hx, y, ⟨hy, h⟩, rfl⟩; exact ⟨x, hx, y, hy, h, rfl⟩
  · rintro ⟨x, hx, y, hy, h, rfl⟩; exact ⟨x, hx, y, ⟨hy, h⟩, rfl⟩
theorem MOk.ref_in {c : List Gate} {N : Int} {m : List Cell} (h : MOk c N m) {x : Cell} (hx : x ∈ m) : In c x.ref := ⟨(h.refs x hx).1, (h.refs x hx).2.1⟩
/-- references combined by or -/
def orAll (l : List Int) (x : List Gate × Int) : List Gate × Int := l.foldl (fun x r => cor x.1 x.2 r) x
theorem orAll_ok : ∀ (l : List Int) (c : List Gate) (s : Int), Good c → c.length + l.length ≤ 20000 → In c s → (∀ r ∈ l, In c r) →
    Grow c (orAll l (c, s)).1 l.length ∧ In (orAll l (c, s)).1 (orAll l (c, s)).2 ∧ ∀ V, cv (orAll l (c, s)).1 V (orAll l (c, s)).2 = (cv c V s || l.any fun r => cv c V r)
  | [], c, s, hg, _, hs, _ => ⟨.refl hg _, hs, fun V => by simp [orAll]⟩
  | r :: l, c, s, hg, hl, hs, hr => by
    simp only [List.length_cons] at hl
    obtain ⟨g1, i1, v1⟩ := ok_or.one hg (by omega) hs (hr r (List.mem_cons_self ..))
    have l1 := g1.len
    have e : orAll (r :: l) (c, s) = orAll l (cor c s r) := rfl
    rw [e]
    obtain ⟨a1, a2, a3⟩ := orAll_ok l (cor c s r).1 (cor c s r).2 g1.good (by omega) i1 (fun q hq => (hr q (List.mem_cons_of_mem _ hq)).up g1)
    refine ⟨(g1.trans a1).more (by simp; omega), a2, fun V => ?_⟩
    rw [show orAll l (cor c s r) = orAll l ((cor c s r).1, (cor c s r).2) from rfl, a3 V, v1 V, List.any_cons, Bool.or_assoc]
    congr 2
    rw [Bool.eq_iff_iff, List.any_eq_true, List.any_eq_true]
    constructor
    · rintro ⟨q, hq, h⟩; exact ⟨q, hq, by rw [← (hr q (List.mem_cons_of_mem _ hq)).cv g1 V]; exact h⟩
    · rintro ⟨q, hq, h⟩; exact ⟨q, hq, by rw [(hr q (List.mem_cons_of_mem _ hq)).cv g1 V]; exact h⟩
def mSome (c : List Gate) (a : List Cell) : List Gate × Int := orAll (a.map Cell.ref) (c, 1)

/-- a has no cell that is true where b's is false -/
def inStep (b : List Cell) (x : List Gate × Int) (y : Cell) : List Gate × Int := cbut (cbut x.1 y.ref (mat b y.rank)).1 x.2 (cbut x.1 y.ref (mat b y.rank)).2
def mIn (c : List Gate) (a b : List Cell) : List Gate × Int := a.foldl (inStep b) (c, 0)
theorem inRun_ok {N : Int} : ∀ (a : List Cell) (c : List Gate) (b : List Cell) (s : Int), Good c → c.length + 2 * a.length ≤ 20000 → In c s → (∀ x ∈ a, In c x.ref) → MOk c N b →
    Grow c (a.foldl (inStep b) (c, s)).1 (2 * a.length) ∧ In (a.foldl (inStep b) (c, s)).1 (a.foldl (inStep b) (c, s)).2 ∧ ∀ V, cv (a.foldl (inStep b) (c, s)).1 V (a.foldl (inStep b) (c, s)).2 = (cv c V s && a.all fun x => !(cv c V x.ref && !cv c V (mat b x.rank)))
  | [], c, b, s, hg, _, hs, _, _ => ⟨.refl hg _, hs, fun V => by simp⟩
  | y :: a, c, b, s, hg, hl, hs, hr, hb => by
    simp only [List.length_cons] at hl
    obtain ⟨g1, i1, v1⟩ := ok_but.one hg (by omega) (hr y (List.mem_cons_self ..)) (hb.mat_in' hg y.rank)
    have l1 := g1.len
    obtain ⟨g2, i2, v2⟩ := ok_but.one g1.good (by omega) (hs.up g1) i1
    have l2 := g2.len
    have g3 := g1.trans g2
    obtain ⟨a1, a2, a3⟩ := inRun_ok a (inStep b (c, s) y).1 b (inStep b (c, s) y).2 g2.good (by show (cbut (cbut c y.ref (mat b y.rank)).1 s (cbut c y.ref (mat b y.rank)).2).1.length + 2 * a.length ≤ 20000; omega) i2 (fun x hx => (hr x (List.mem_cons_of_mem _ hx)).up g3) (hb.up g3.ge)
    rw [List.foldl_cons]
    refine ⟨(g3.trans a1).more (by simp; omega), a2, fun V => ?_⟩
    rw [show a.foldl (inStep b) (inStep b (c, s) y) = a.foldl (inStep b) ((inStep b (c, s) y).1, (inStep b (c, s) y).2) from rfl, a3 V]
    rw [show cv (inStep b (c, s) y).1 V (inStep b (c, s) y).2 = (cv c V s && !(cv c V y.ref && !cv c V (mat b y.rank))) from by show cv (cbut (cbut c y.ref (mat b y.rank)).1 s (cbut c y.ref (mat b y.rank)).2).1 V (cbut (cbut c y.ref (mat b y.rank)).1 s (cbut c y.ref (mat b y.rank)).2).2 = _; rw [v2 V, v1 V, hs.cv g1 V]]
    rw [List.all_cons, Bool.and_assoc]
    congr 2
    rw [Bool.eq_iff_iff, List.all_eq_true, List.all_eq_true]
    constructor
    · intro h x hx; have := h x hx; rw [(show cv (inStep b (c, s) y).1 V x.ref = cv c V x.ref from (hr x (List.mem_cons_of_mem _ hx)).cv g3 V), (show cv (inStep b (c, s) y).1 V (mat b x.rank) = cv c V (mat b x.rank) from mat_up hb hg g3 V _)] at this; exact this
    · intro h x hx; have := h x hx; rw [(show cv (inStep b (c, s) y).1 V x.ref = cv c V x.ref from (hr x (List.mem_cons_of_mem _ hx)).cv g3 V), (show cv (inStep b (c, s) y).1 V (mat b x.rank) = cv c V (mat b x.rank) from mat_up hb hg g3 V _)]; exact this
end Go.Proofs.Ytadilppdlbhjnaa

namespace Go.Proofs.Ytadilppdlbhjnaa
set_option linter.unusedSimpArgs false
set_option linter.unusedVariables false

def loneStep (x : List Gate × Int × Int) (y : Cell) : List Gate × Int × Int :=
  let u := cand x.1 x.2.1 y.ref
  let t := cor u.1 x.2.2 u.2
  let s := cor t.1 x.2.1 y.ref
  (s.1, s.2, t.2)
def loneRun (a : List Cell) (x : List Gate × Int × Int) : List Gate × Int × Int := a.foldl loneStep x
def mLone (c : List Gate) (a : List Cell) : List Gate × Int := ((loneRun a (c, 1, 1)).1, cnot (loneRun a (c, 1, 1)).2.2)

def mConst (l : List Int) : List Cell := l.map fun t => ⟨t, 0⟩
def mValue (c : List Gate) (V : List Bool) (m : List Cell) : List Int := (m.filter fun x => ceval c V x.ref).map Cell.rank

/- Ranks of pairs. -/
theorem sorted_len : ∀ {m : List Cell} {lo N : Int}, Sorted m → (∀ x ∈ m, lo ≤ x.rank ∧ x.rank < N) → m.length ≤ (N - lo).toNat
  | [], _, _, _, _ => Nat.zero_le _
  | x :: m, lo, N, hs, h => by
    have h1 := h x (List.mem_cons_self ..)
    have := sorted_len (lo := x.rank + 1) (N := N) hs.tail fun y hy => ⟨by have := hs.lt y hy; omega, (h y (List.mem_cons_of_mem _ hy)).2⟩
    simp only [List.length_cons]; omega
theorem MOk.len {c : List Gate} {N : Nat} {m : List Cell} (h : MOk c N m) : m.length ≤ N := by
  have := sorted_len h.sorted h.ranks
  omega
end Go.Proofs.Ytadilppdlbhjnaa

namespace Go.Proofs.Ytadilppdlbhjnaa
set_option linter.unusedSimpArgs false
set_option linter.unusedVariables false

end Go.Proofs.Ytadilppdlbhjnaa

namespace Go.Proofs.Ytadilppdlbhjnaa
set_option linter.unusedSimpArgs false
set_option linter.unusedVariables false

/-- a path of at least one and at most m steps -/
def PathN (n : Nat) (R : Int → Int → Prop) : Nat → Int → Int → Prop
  | 0, _, _ => False
  | m + 1, x, y => R x y ∨ ∃ z : Int, 0 ≤ z ∧ z < n ∧ PathN n R m x z ∧ R z y
section
variable {n : Nat} {R : Int → Int → Prop}
theorem PathN.step : ∀ {m : Nat} {x y : Int}, PathN n R m x y → PathN n R (m + 1) x y
  | m + 1, x, y, h => by
    rcases h with h | ⟨z, h0, h1, h2, h3⟩
    · exact .inl h
    · exact .inr ⟨z, h0, h1, h2.step, h3⟩
theorem PathN.mono {m k : Nat} {x y : Int} (h : PathN n R m x y) (hk : m ≤ k) : PathN n R k x y := by
  obtain ⟨d, rfl⟩ := Nat.le.dest hk
  clear hk
  induction d with
  | zero => exact h
  | succ d ih => exact ih.step
theorem PathN.split {a : Nat} (ha : 0 < a) {x : Int} : ∀ {b : Nat} {y : Int}, PathN n R (a + b) x y → PathN n R a x y ∨ ∃ z : Int, 0 ≤ z ∧ z < n ∧ PathN n R a x z ∧ PathN n R b z y
  | 0, y, h => .inl h
  | b + 1, y, h => by
    rcases h with h | ⟨u, h0, h1, h2, h3⟩
    · exact .inl (PathN.mono (m := 1) (.inl h) ha)
    · rcases PathN.split ha h2 with h | ⟨z, z0, z1, z2, z3⟩
      · exact .inr ⟨u, h0, h1, h, .inl h3⟩
      · exact .inr ⟨z, z0, z1, z2, .inr ⟨u, h0, h1, z3, h3⟩⟩
end

section
variable {n : Nat} {a : List Cell} {c : List Gate} (hn : n ≤ 4) (hg : Good c) (ha : MOk c ((n * n : Nat) : Int) a) (V : List Bool)
include hn hg ha
end
end Go.Proofs.Ytadilppdlbhjnaa

namespace Go.Proofs.Ytadilppdlbhjnaa
set_option linter.unusedSimpArgs false
set_option linter.unusedVariables false

section
variable {N : Int} {c : List Gate} {a b : List Cell} (hg : Good c) (hl : c.length + (a.length + b.length) ≤ 20000) (ha : MOk c N a) (hb : MOk c N b)
include hg hl ha hb
omit hg hl in
end
end Go.Proofs.Ytadilppdlbhjnaa

namespace Go.Proofs.Ytadilppdlbhjnaa
set_option linter.unusedSimpArgs false
set_option linter.unusedVariables false

def gp (g : Cell → Cell → List Tri) (a b : List Cell) : List Tri := a.flatMap fun x => b.flatMap (g x)
/-- behind I rounds of the outer loop and K of the inner one -/
def gl (g : Cell → Cell → List Tri) (a b : List Cell) (I K : Nat) : List Tri := gp g (a.take I) b ++ gp g ((a.drop I).take 1) (b.take K)
theorem gp_append (g : Cell → Cell → List Tri) (a a' b : List Cell) : gp g (a ++ a') b = gp g a b ++ gp g a' b := by simp [gp]
theorem gp_one (g : Cell → Cell → List Tri) (x : Cell) (b : List Cell) : gp g [x] b = b.flatMap (g x) := by simp [gp]
variable {g : Cell → Cell → List Tri} {a b : List Cell} {I K : Nat} {x y : Cell}
theorem gl_zero : gl g a b I 0 = gp g (a.take I) b := by simp [gl, gp]
theorem gl_start : gl g a b 0 0 = [] := by simp [gl, gp]
theorem one_of (hx : a[I]? = some x) : (a.drop I).take 1 = [x] := by
  obtain ⟨hk, he⟩ := List.getElem?_eq_some_iff.1 hx
  rw [List.drop_eq_getElem_cons hk, he]; rfl
theorem take_next (hx : a[I]? = some x) : a.take (I + 1) = a.take I ++ [x] := by
  obtain ⟨hk, he⟩ := List.getElem?_eq_some_iff.1 hx
  rw [List.take_succ_eq_append_getElem hk, he]
theorem gl_step (hx : a[I]? = some x) (hy : b[K]? = some y) : gl g a b I (K + 1) = gl g a b I K ++ g x y := by
  unfold gl
  rw [one_of hx, gp_one, gp_one, take_next hy, List.flatMap_append, List.append_assoc]
  simp
theorem gl_next (hx : a[I]? = some x) : gl g a b (I + 1) 0 = gl g a b I b.length := by
  rw [gl_zero, take_next hx, gp_append]
  unfold gl
  rw [one_of hx, List.take_length]
theorem gl_end : gl g a b a.length 0 = gp g a b := by rw [gl_zero, List.take_length]
theorem gl_prefix : gl g a b I K <+: gp g a b := by
  have h : gp g a b = gp g (a.take I) b ++ gp g (a.drop I) b := by rw [← gp_append, List.take_append_drop]
  rw [h]
  unfold gl
  rw [List.prefix_append_right_inj]
  cases hd : a.drop I with
  | nil => simp [gp]
  | cons z t =>
    have e : gp g (z :: t) b = gp g [z] b ++ gp g t b := gp_append g [z] t b
    rw [e]
    refine List.IsPrefix.trans ?_ (List.prefix_append _ _)
    show gp g [z] (b.take K) <+: gp g [z] b
    rw [gp_one, gp_one]
    have : b.flatMap (g z) = (b.take K).flatMap (g z) ++ (b.drop K).flatMap (g z) := by rw [← List.flatMap_append, List.take_append_drop]
    rw [this]; exact List.prefix_append _ _

/-- a join's pair -/
def gj (n p : Int) (x y : Cell) : List Tri := if x.rank % n == y.rank / p then [⟨x.rank / n * p + y.rank % p, x.ref, y.ref⟩] else []
theorem jpairs_gp (n p : Int) (a b : List Cell) : jpairs n p a b = gp (gj n p) a b := by
  unfold jpairs gp
  refine congrArg (fun f => a.flatMap f) (funext fun x => ?_)
  induction b with
  | nil => rfl
  | cons y b ih =>
    rw [List.flatMap_cons, ← ih]
    unfold gj
    by_cases h : (x.rank % n == y.rank / p) = true
    · simp only [List.filter_cons, h, if_true]; rfl
    · simp only [List.filter_cons, h, if_false]; rfl
/-- the state of a join behind I and K rounds -/
def jst (c : List Gate) (n p : Int) (a b : List Cell) (I K : Nat) : List Gate × (Int → Int) := jrun (gl (gj n p) a b I K) (c, fun _ => 1)
theorem jrun_append (l m : List Tri) (x : List Gate × (Int → Int)) : jrun (l ++ m) x = jrun m (jrun l x) := by simp [jrun, List.foldl_append]
section
variable {c : List Gate} {A B : Int} {N : Nat} {n p : Int} (hg : Good c) (hl : c.length + 2 * (a.length * b.length) ≤ 20000) (ha : MOk c A a) (hb : MOk c B b)
include hg hl ha hb
theorem jst_ok : Grow c (jst c n p a b I K).1 (2 * (a.length * b.length)) ∧ ∀ r, In (jst c n p a b I K).1 ((jst c n p a b I K).2 r) := by
  have hp : gl (gj n p) a b I K <+: jpairs n p a b := by rw [jpairs_gp]; exact gl_prefix
  have h1 := hp.length_le
  have h2 := jpairs_len n p a b
  have hmem : ∀ t ∈ gl (gj n p) a b I K, In c t.p ∧ In c t.q := fun t ht => by
    obtain ⟨u, hu, v, hv, _, rfl⟩ := mem_jpairs.1 (hp.subset ht)
    exact ⟨ha.ref_in hu, hb.ref_in hv⟩
  obtain ⟨g1, g2, _⟩ := jrun_ok (gl (gj n p) a b I K) c (fun _ => 1) hg (by omega) (fun r => in_1 hg.ne) hmem
  exact ⟨g1.more (by omega), g2⟩
end
theorem jst_start {c : List Gate} {n p : Int} : jst c n p a b 0 0 = (c, fun _ => 1) := by unfold jst; rw [gl_start]; rfl
theorem jst_next {c : List Gate} {n p : Int} (hx : a[I]? = some x) : jst c n p a b (I + 1) 0 = jst c n p a b I b.length := by unfold jst; rw [gl_next hx]
theorem jst_end {c : List Gate} {n p : Int} {N : Nat} : ((jst c n p a b a.length 0).1, gather (ranksTo N) (jst c n p a b a.length 0).2) = mJoin c N n p a b := by
  unfold jst mJoin; rw [gl_end, jpairs_gp]
theorem jst_skip {c : List Gate} {n p : Int} (hx : a[I]? = some x) (hy : b[K]? = some y) (h : x.rank % n ≠ y.rank / p) : jst c n p a b I (K + 1) = jst c n p a b I K := by
  unfold jst; rw [gl_step hx hy, gj, if_neg (by simpa using h), List.append_nil]
theorem jst_step {c C D E : List Gate} {n p q z : Int} {S : Int → Int} (hx : a[I]? = some x) (hy : b[K]? = some y) (h : x.rank % n = y.rank / p) (h0 : jst c n p a b I K = (C, S)) (h1 : cand C x.ref y.ref = (D, q)) (h2 : cor D (S (x.rank / n * p + y.rank % p)) q = (E, z)) :
    jst c n p a b I (K + 1) = (E, fun r => if r = x.rank / n * p + y.rank % p then z else S r) := by
  unfold jst at h0 ⊢
  rw [gl_step hx hy, gj, if_pos (by simpa using h), jrun_append, h0]
  show ((cor (cand C x.ref y.ref).1 (S _) (cand C x.ref y.ref).2).1, fun r => if r = _ then (cor (cand C x.ref y.ref).1 (S _) (cand C x.ref y.ref).2).2 else S r) = _
  rw [h1]
  dsimp only
  rw [h2]
end Go.Proofs.Ytadilppdlbhjnaa
