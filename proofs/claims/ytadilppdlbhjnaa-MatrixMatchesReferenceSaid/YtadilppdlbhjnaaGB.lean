import Derived.Test.YtadilppdlbhjnaaGA
namespace Go.Proofs.Ytadilppdlbhjnaa
set_option linter.unusedSimpArgs false
set_option linter.unusedVariables false
structure Cell where
 rank : Int
 ref : Int
deriving DecidableEq
structure Tri where
 rank : Int
 p : Int
 q : Int
deriving DecidableEq
def mat : List Cell → Int → Int
 | [], _ => 1
 | x :: m, r => if x.rank = r then x.ref else mat m r
def put (m : List Cell) (r x : Int) : List Cell := if x = 1 then m else m ++ [⟨r, x⟩]
def Sorted (m : List Cell) : Prop := m.Pairwise fun x y => x.rank < y.rank
structure MOk (c : List Gate) (N : Int) (m : List Cell) : Prop where
 sorted : Sorted m
 refs : ∀ x ∈ m, 0 ≤ x.ref ∧ x.ref < 2 * (c.length : Int) ∧ x.ref ≠ 1
 ranks : ∀ x ∈ m, 0 ≤ x.rank ∧ x.rank < N
theorem mat_mem {m : List Cell} {x : Cell} (hs : Sorted m) (h : x ∈ m) : mat m x.rank = x.ref := by
 induction m with
 | nil => cases h
 | cons y m ih =>
  rw [Sorted, List.pairwise_cons] at hs
  unfold mat
  rcases List.mem_cons.1 h with rfl | h
  · rw [if_pos rfl]
  · have := hs.1 x h
    rw [if_neg (by omega)]; exact ih hs.2 h
theorem mat_out {m : List Cell} {r : Int} (h : ∀ x ∈ m, x.rank ≠ r) : mat m r = 1 := by
 induction m with
 | nil => rfl
 | cons y m ih =>
  unfold mat
  rw [if_neg (h y (List.mem_cons_self ..))]; exact ih fun x hx => h x (List.mem_cons_of_mem _ hx)
theorem mat_cases (m : List Cell) (r : Int) : mat m r = 1 ∨ ∃ x ∈ m, x.rank = r ∧ mat m r = x.ref := by
 induction m with
 | nil => exact .inl rfl
 | cons y m ih =>
  unfold mat
  by_cases h : y.rank = r
  · rw [if_pos h]; exact .inr ⟨y, List.mem_cons_self .., h, rfl⟩
  · rw [if_neg h]
    rcases ih with h | ⟨x, hx, h1, h2⟩
    · exact .inl h
    · exact .inr ⟨x, List.mem_cons_of_mem _ hx, h1, h2⟩
theorem MOk.mat_in {c : List Gate} {N : Int} {m : List Cell} (h : MOk c N m) (hc : 0 < c.length) (r : Int) : 0 ≤ mat m r ∧ mat m r < 2 * (c.length : Int) := by
 rcases mat_cases m r with e | ⟨x, hx, _, e⟩
 · rw [e]; omega
 · rw [e]; have := h.refs x hx; omega
theorem MOk.up {c d : List Gate} {N : Int} {m : List Cell} (h : MOk c N m) (hl : c.length ≤ d.length) : MOk d N m :=
 ⟨h.sorted, fun x hx => by have := h.refs x hx; omega, h.ranks⟩
def mzipF : Nat → List Cell → List Cell → List Tri
 | 0, _, _ => []
 | _ + 1, [], [] => []
 | f + 1, x :: xs, [] => ⟨x.rank, x.ref, 1⟩ :: mzipF f xs []
 | f + 1, [], y :: ys => ⟨y.rank, 1, y.ref⟩ :: mzipF f [] ys
 | f + 1, x :: xs, y :: ys => if x.rank < y.rank then ⟨x.rank, x.ref, 1⟩ :: mzipF f xs (y :: ys) else if y.rank < x.rank then ⟨y.rank, 1, y.ref⟩ :: mzipF f (x :: xs) ys else ⟨x.rank, x.ref, y.ref⟩ :: mzipF f xs ys
def mzip (a b : List Cell) : List Tri := mzipF (a.length + b.length) a b
theorem mzipF_enough : ∀ (f g : Nat) (a b : List Cell), a.length + b.length ≤ f → a.length + b.length ≤ g → mzipF f a b = mzipF g a b
 | 0, 0, _, _, _, _ => rfl
 | 0, g + 1, a, b, h, _ => by
  have h1 : a = [] := List.eq_nil_of_length_eq_zero (by omega)
  have h2 : b = [] := List.eq_nil_of_length_eq_zero (by omega)
  subst h1 h2; rfl
 | f + 1, 0, a, b, _, h => by
  have h1 : a = [] := List.eq_nil_of_length_eq_zero (by omega)
  have h2 : b = [] := List.eq_nil_of_length_eq_zero (by omega)
  subst h1 h2; rfl
 | f + 1, g + 1, a, b, h, k => by
  match a, b with
  | [], [] => rfl
  | x :: xs, [] => simp only [mzipF]; rw [mzipF_enough f g xs [] (by simp at h ⊢; omega) (by simp at k ⊢; omega)]
  | [], y :: ys => simp only [mzipF]; rw [mzipF_enough f g [] ys (by simp at h ⊢; omega) (by simp at k ⊢; omega)]
  | x :: xs, y :: ys =>
   simp only [List.length_cons] at h k
   simp only [mzipF]
   rw [mzipF_enough f g xs (y :: ys) (by simp; omega) (by simp; omega), mzipF_enough f g (x :: xs) ys (by simp; omega) (by simp; omega), mzipF_enough f g xs ys (by omega) (by omega)]
theorem mzip_nil : mzip [] [] = [] := rfl
theorem mzip_left (x : Cell) (xs : List Cell) : mzip (x :: xs) [] = ⟨x.rank, x.ref, 1⟩ :: mzip xs [] := rfl
theorem mzip_right (y : Cell) (ys : List Cell) : mzip [] (y :: ys) = ⟨y.rank, 1, y.ref⟩ :: mzip [] ys := by
 show mzipF ([].length + (y :: ys).length) [] (y :: ys) = _
 rw [mzipF_enough _ (ys.length + 1) [] (y :: ys) (by simp) (by simp)]
 simp only [mzipF, mzip]; rw [mzipF_enough ys.length (([] : List Cell).length + ys.length) [] ys (by simp) (by simp)]
theorem mzip_cons (x y : Cell) (xs ys : List Cell) : mzip (x :: xs) (y :: ys) = if x.rank < y.rank then ⟨x.rank, x.ref, 1⟩ :: mzip xs (y :: ys) else if y.rank < x.rank then ⟨y.rank, 1, y.ref⟩ :: mzip (x :: xs) ys else ⟨x.rank, x.ref, y.ref⟩ :: mzip xs ys := by
 show mzipF ((x :: xs).length + (y :: ys).length) (x :: xs) (y :: ys) = _
 rw [mzipF_enough _ (xs.length + ys.length + 2) _ _ (by simp <;> omega) (by simp <;> omega)]
 simp only [mzipF, mzip]
 rw [mzipF_enough (xs.length + ys.length + 1) _ xs (y :: ys) (by simp <;> omega) (Nat.le_refl _), mzipF_enough (xs.length + ys.length + 1) _ (x :: xs) ys (by simp <;> omega) (Nat.le_refl _), mzipF_enough (xs.length + ys.length + 1) _ xs ys (by omega) (Nat.le_refl _)]
theorem mzip_ind {P : List Cell → List Cell → Prop} (h0 : P [] []) (h1 : ∀ x xs, P xs [] → P (x :: xs) []) (h2 : ∀ y ys, P [] ys → P [] (y :: ys))
 (h3 : ∀ x xs y ys, (x.rank < y.rank → P xs (y :: ys)) → (y.rank < x.rank → P (x :: xs) ys) → (x.rank = y.rank → P xs ys) → P (x :: xs) (y :: ys)) : ∀ a b, P a b := by
 have key : ∀ (f : Nat) (a b : List Cell), a.length + b.length ≤ f → P a b := by
  intro f
  induction f with
  | zero =>
   intro a b h
   have e1 : a = [] := List.eq_nil_of_length_eq_zero (by omega)
   have e2 : b = [] := List.eq_nil_of_length_eq_zero (by omega)
   subst e1 e2; exact h0
  | succ f ih =>
   intro a b h
   match a, b with
   | [], [] => exact h0
   | x :: xs, [] => exact h1 x xs (ih _ _ (by simp at h ⊢; omega))
   | [], y :: ys => exact h2 y ys (ih _ _ (by simp at h ⊢; omega))
   | x :: xs, y :: ys =>
    simp only [List.length_cons] at h
    exact h3 x xs y ys (fun _ => ih _ _ (by simp; omega)) (fun _ => ih _ _ (by simp; omega)) (fun _ => ih _ _ (by omega))
 exact fun a b => key _ a b (Nat.le_refl _)
theorem mzip_len (a b : List Cell) : (mzip a b).length ≤ a.length + b.length := by
 refine mzip_ind (P := fun a b => (mzip a b).length ≤ a.length + b.length) ?_ ?_ ?_ ?_ a b
 · simp [mzip_nil]
 · intro x xs ih; rw [mzip_left]; simp at ih ⊢; omega
 · intro y ys ih; rw [mzip_right]; simp at ih ⊢; omega
 · intro x xs y ys i1 i2 i3
   rw [mzip_cons]
   split
   · rename_i h; have := i1 h; simp at this ⊢; omega
   · split
     · rename_i h; have := i2 h; simp at this ⊢; omega
     · have := i3 (by omega); simp at this ⊢; omega
theorem Sorted.tail {x : Cell} {m : List Cell} (h : Sorted (x :: m)) : Sorted m := (List.pairwise_cons.1 h).2
theorem Sorted.lt {x : Cell} {m : List Cell} (h : Sorted (x :: m)) : ∀ y ∈ m, x.rank < y.rank := (List.pairwise_cons.1 h).1
theorem mat_low {m : List Cell} {r : Int} (h : ∀ x ∈ m, r < x.rank) : mat m r = 1 := mat_out fun x hx => by have := h x hx; omega
theorem mzip_spec (a b : List Cell) : Sorted a → Sorted b → (∀ t ∈ mzip a b, t.p = mat a t.rank ∧ t.q = mat b t.rank ∧ ((∃ x ∈ a, x.rank = t.rank) ∨ ∃ y ∈ b, y.rank = t.rank)) ∧ (mzip a b).Pairwise (fun s t => s.rank < t.rank) ∧ (∀ x ∈ a, ∃ t ∈ mzip a b, t.rank = x.rank) ∧ ∀ y ∈ b, ∃ t ∈ mzip a b, t.rank = y.rank := by
 refine mzip_ind (P := fun a b => Sorted a → Sorted b → (∀ t ∈ mzip a b, t.p = mat a t.rank ∧ t.q = mat b t.rank ∧ ((∃ x ∈ a, x.rank = t.rank) ∨ ∃ y ∈ b, y.rank = t.rank)) ∧ (mzip a b).Pairwise (fun s t => s.rank < t.rank) ∧ (∀ x ∈ a, ∃ t ∈ mzip a b, t.rank = x.rank) ∧ ∀ y ∈ b, ∃ t ∈ mzip a b, t.rank = y.rank) ?_ ?_ ?_ ?_ a b
 · intro _ _; rw [mzip_nil]; exact ⟨by simp, by simp, by simp, by simp⟩
 · intro x xs ih ha hb
   obtain ⟨i1, i2, i3, i4⟩ := ih ha.tail hb
   rw [mzip_left]
   have hlt : ∀ t ∈ mzip xs [], x.rank < t.rank := by
    intro t ht
    rcases (i1 t ht).2.2 with ⟨z, hz, e⟩ | ⟨z, hz, e⟩
    · rw [← e]; exact ha.lt z hz
    · cases hz
   refine ⟨fun t ht => ?_, List.pairwise_cons.2 ⟨hlt, i2⟩, fun z hz => ?_, by simp⟩
   · rcases List.mem_cons.1 ht with rfl | ht
     · exact ⟨by simp [mat], rfl, .inl ⟨x, List.mem_cons_self .., rfl⟩⟩
     · obtain ⟨j1, j2, j3⟩ := i1 t ht
       have := hlt t ht
       refine ⟨by rw [j1]; simp only [mat]; rw [if_neg (by omega)], j2, ?_⟩
       rcases j3 with ⟨z, hz, e⟩ | ⟨z, hz, e⟩
       · exact .inl ⟨z, List.mem_cons_of_mem _ hz, e⟩
       · cases hz
   · rcases List.mem_cons.1 hz with rfl | hz
     · exact ⟨_, List.mem_cons_self .., rfl⟩
     · obtain ⟨t, ht, e⟩ := i3 z hz; exact ⟨t, List.mem_cons_of_mem _ ht, e⟩
 · intro y ys ih ha hb
   obtain ⟨i1, i2, i3, i4⟩ := ih ha hb.tail
   rw [mzip_right]
   have hlt : ∀ t ∈ mzip [] ys, y.rank < t.rank := by
    intro t ht
    rcases (i1 t ht).2.2 with ⟨z, hz, e⟩ | ⟨z, hz, e⟩
    · cases hz
    · rw [← e]; exact hb.lt z hz
   refine ⟨fun t ht => ?_, List.pairwise_cons.2 ⟨hlt, i2⟩, by simp, fun z hz => ?_⟩
   · rcases List.mem_cons.1 ht with rfl | ht
     · exact ⟨rfl, by simp [mat], .inr ⟨y, List.mem_cons_self .., rfl⟩⟩
     · obtain ⟨j1, j2, j3⟩ := i1 t ht
       have := hlt t ht
       refine ⟨j1, by rw [j2]; simp only [mat]; rw [if_neg (by omega)], ?_⟩
       rcases j3 with ⟨z, hz, e⟩ | ⟨z, hz, e⟩
       · cases hz
       · exact .inr ⟨z, List.mem_cons_of_mem _ hz, e⟩
   · rcases List.mem_cons.1 hz with rfl | hz
     · exact ⟨_, List.mem_cons_self .., rfl⟩
     · obtain ⟨t, ht, e⟩ := i4 z hz; exact ⟨t, List.mem_cons_of_mem _ ht, e⟩
 · intro x xs y ys h1 h2 h3 ha hb
   rw [mzip_cons]
   by_cases c1 : x.rank < y.rank
   · rw [if_pos c1]
     obtain ⟨i1, i2, i3, i4⟩ := h1 c1 ha.tail hb
     have hlt : ∀ t ∈ mzip xs (y :: ys), x.rank < t.rank := by
      intro t ht
      rcases (i1 t ht).2.2 with ⟨z, hz, e⟩ | ⟨z, hz, e⟩
      · rw [← e]; exact ha.lt z hz
      · rw [← e]; rcases List.mem_cons.1 hz with rfl | hz
        · exact c1
        · have := hb.lt z hz; omega
     refine ⟨fun t ht => ?_, List.pairwise_cons.2 ⟨hlt, i2⟩, fun z hz => ?_, fun z hz => ?_⟩
     · rcases List.mem_cons.1 ht with rfl | ht
       · refine ⟨by simp [mat], (mat_low fun z hz => ?_).symm, .inl ⟨x, List.mem_cons_self .., rfl⟩⟩
         rcases List.mem_cons.1 hz with rfl | hz
         · exact c1
         · have := hb.lt z hz; show x.rank < z.rank; omega
       · obtain ⟨j1, j2, j3⟩ := i1 t ht
         have := hlt t ht
         refine ⟨by rw [j1]; show _ = mat (x :: xs) _; rw [mat, if_neg (by omega)], j2, ?_⟩
         rcases j3 with ⟨z, hz, e⟩ | h
         · exact .inl ⟨z, List.mem_cons_of_mem _ hz, e⟩
         · exact .inr h
     · rcases List.mem_cons.1 hz with rfl | hz
       · exact ⟨_, List.mem_cons_self .., rfl⟩
       · obtain ⟨t, ht, e⟩ := i3 z hz; exact ⟨t, List.mem_cons_of_mem _ ht, e⟩
     · obtain ⟨t, ht, e⟩ := i4 z hz; exact ⟨t, List.mem_cons_of_mem _ ht, e⟩
   · rw [if_neg c1]
     by_cases c2 : y.rank < x.rank
     · rw [if_pos c2]
       obtain ⟨i1, i2, i3, i4⟩ := h2 c2 ha hb.tail
       have hlt : ∀ t ∈ mzip (x :: xs) ys, y.rank < t.rank := by
        intro t ht
        rcases (i1 t ht).2.2 with ⟨z, hz, e⟩ | ⟨z, hz, e⟩
        · rw [← e]; rcases List.mem_cons.1 hz with rfl | hz
          · exact c2
          · have := ha.lt z hz; omega
        · rw [← e]; exact hb.lt z hz
       refine ⟨fun t ht => ?_, List.pairwise_cons.2 ⟨hlt, i2⟩, fun z hz => ?_, fun z hz => ?_⟩
       · rcases List.mem_cons.1 ht with rfl | ht
         · refine ⟨(mat_low fun z hz => ?_).symm, by simp [mat], .inr ⟨y, List.mem_cons_self .., rfl⟩⟩
           rcases List.mem_cons.1 hz with rfl | hz
           · exact c2
           · have := ha.lt z hz; show y.rank < z.rank; omega
         · obtain ⟨j1, j2, j3⟩ := i1 t ht
           have := hlt t ht
           refine ⟨j1, by rw [j2]; show _ = mat (y :: ys) _; rw [mat, if_neg (by omega)], ?_⟩
           rcases j3 with h | ⟨z, hz, e⟩
           · exact .inl h
           · exact .inr ⟨z, List.mem_cons_of_mem _ hz, e⟩
       · obtain ⟨t, ht, e⟩ := i3 z hz; exact ⟨t, List.mem_cons_of_mem _ ht, e⟩
       · rcases List.mem_cons.1 hz with rfl | hz
         · exact ⟨_, List.mem_cons_self .., rfl⟩
         · obtain ⟨t, ht, e⟩ := i4 z hz; exact ⟨t, List.mem_cons_of_mem _ ht, e⟩
     · rw [if_neg c2]
       have c3 : x.rank = y.rank := by omega
       obtain ⟨i1, i2, i3, i4⟩ := h3 c3 ha.tail hb.tail
       have hlt : ∀ t ∈ mzip xs ys, x.rank < t.rank := by
        intro t ht
        rcases (i1 t ht).2.2 with ⟨z, hz, e⟩ | ⟨z, hz, e⟩
        · rw [← e]; exact ha.lt z hz
        · rw [← e, c3]; exact hb.lt z hz
       refine ⟨fun t ht => ?_, List.pairwise_cons.2 ⟨hlt, i2⟩, fun z hz => ?_, fun z hz => ?_⟩
       · rcases List.mem_cons.1 ht with rfl | ht
         · exact ⟨by simp [mat], by simp [mat, c3], .inl ⟨x, List.mem_cons_self .., rfl⟩⟩
         · obtain ⟨j1, j2, j3⟩ := i1 t ht
           have := hlt t ht
           refine ⟨by rw [j1]; show _ = mat (x :: xs) _; rw [mat, if_neg (by omega)], by rw [j2]; show _ = mat (y :: ys) _; rw [mat, if_neg (by omega)], ?_⟩
           rcases j3 with ⟨z, hz, e⟩ | ⟨z, hz, e⟩
           · exact .inl ⟨z, List.mem_cons_of_mem _ hz, e⟩
           · exact .inr ⟨z, List.mem_cons_of_mem _ hz, e⟩
       · rcases List.mem_cons.1 hz with rfl | hz
         · exact ⟨_, List.mem_cons_self .., rfl⟩
         · obtain ⟨t, ht, e⟩ := i3 z hz; exact ⟨t, List.mem_cons_of_mem _ ht, e⟩
       · rcases List.mem_cons.1 hz with rfl | hz
         · exact ⟨_, List.mem_cons_self .., c3⟩
         · obtain ⟨t, ht, e⟩ := i4 z hz; exact ⟨t, List.mem_cons_of_mem _ ht, e⟩
end Go.Proofs.Ytadilppdlbhjnaa
namespace Go.Proofs.Ytadilppdlbhjnaa
set_option linter.unusedSimpArgs false
set_option linter.unusedVariables false
structure OpOk (op : List Gate → Int → Int → List Gate × Int) (f : Bool → Bool → Bool) : Prop where
 keeps : ∀ {c p q}, Good c → c.length < 20000 → 0 ≤ p → p < 2 * (c.length : Int) → 0 ≤ q → q < 2 * (c.length : Int) → Keeps c (op c p q) 1
 val : ∀ {c p q} (V : List Bool), Good c → c.length < 20000 → 0 ≤ p → p < 2 * (c.length : Int) → 0 ≤ q → q < 2 * (c.length : Int) → cv (op c p q).1 V (op c p q).2 = f (cv c V p) (cv c V q)
def cbut (c : List Gate) (p q : Int) : List Gate × Int := cand c p (cnot q)
theorem ok_and : OpOk cand (fun x y => x && y) := ⟨fun h1 h2 h3 h4 h5 h6 => keeps_and h1 h2 h3 h4 h5 h6, fun V h1 h2 h3 h4 h5 h6 => and_val V h1 h2 h3 h4 h5 h6⟩
theorem ok_or : OpOk cor (fun x y => x || y) := ⟨fun h1 h2 h3 h4 h5 h6 => keeps_or h1 h2 h3 h4 h5 h6, fun V h1 h2 h3 h4 h5 h6 => or_val V h1 h2 h3 h4 h5 h6⟩
theorem ok_but : OpOk cbut (fun x y => x && !y) :=
 ⟨fun h1 h2 h3 h4 h5 h6 => keeps_and h1 h2 h3 h4 (cnot_bounds h5 h6).1 (cnot_bounds h5 h6).2,
  fun V h1 h2 h3 h4 h5 h6 => by show cv (cand _ _ _).1 V (cand _ _ _).2 = _; rw [and_val V h1 h2 h3 h4 (cnot_bounds h5 h6).1 (cnot_bounds h5 h6).2, cv_not h5]⟩
theorem Grow.of_keeps {c : List Gate} {r : List Gate × Int} {k : Nat} (h : Keeps c r k) : Grow c r.1 k := ⟨h.good, h.ext, h.len⟩
theorem Grow.refl {c : List Gate} (h : Good c) (k : Nat) : Grow c c k := ⟨h, List.prefix_refl _, by omega⟩
theorem Grow.more {c d : List Gate} {k m : Nat} (h : Grow c d k) (hk : k ≤ m) : Grow c d m := ⟨h.good, h.pre, by have := h.len; omega⟩
def In (c : List Gate) (r : Int) : Prop := 0 ≤ r ∧ r < 2 * (c.length : Int)
theorem In.up {c d : List Gate} {r : Int} {k : Nat} (h : In c r) (g : Grow c d k) : In d r := ⟨h.1, by have := h.2; have := g.ge; omega⟩
theorem In.cv {c d : List Gate} {r : Int} {k : Nat} (h : In c r) (g : Grow c d k) (V : List Bool) : Go.Proofs.Ytadilppdlbhjnaa.cv d V r = Go.Proofs.Ytadilppdlbhjnaa.cv c V r := cv_ext g.pre h.1 h.2
theorem in_1 {c : List Gate} (h : 0 < c.length) : In c 1 := ⟨by omega, by omega⟩
theorem in_0 {c : List Gate} (h : 0 < c.length) : In c 0 := ⟨by omega, by omega⟩
theorem OpOk.one {op : List Gate → Int → Int → List Gate × Int} {f : Bool → Bool → Bool} (h : OpOk op f) {c : List Gate} {p q : Int} (hg : Good c) (hl : c.length < 20000) (hp : In c p) (hq : In c q) : Grow c (op c p q).1 1 ∧ In (op c p q).1 (op c p q).2 ∧ ∀ V, cv (op c p q).1 V (op c p q).2 = f (cv c V p) (cv c V q) := by
 have k := h.keeps hg hl hp.1 hp.2 hq.1 hq.2
 exact ⟨.of_keeps k, ⟨k.low, k.high⟩, fun V => h.val V hg hl hp.1 hp.2 hq.1 hq.2⟩
def zstep (op : List Gate → Int → Int → List Gate × Int) (x : List Gate × List Cell) (t : Tri) : List Gate × List Cell := ((op x.1 t.p t.q).1, put x.2 t.rank (op x.1 t.p t.q).2)
def zrun (op : List Gate → Int → Int → List Gate × Int) (l : List Tri) (x : List Gate × List Cell) : List Gate × List Cell := l.foldl (zstep op) x
def mUnion (c : List Gate) (a b : List Cell) : List Gate × List Cell := zrun cor (mzip a b) (c, [])
def mInter (c : List Gate) (a b : List Cell) : List Gate × List Cell := zrun cand (mzip a b) (c, [])
def mDiff (c : List Gate) (a b : List Cell) : List Gate × List Cell := zrun cbut (mzip a b) (c, [])
theorem put_sorted {m : List Cell} {r x : Int} (h : Sorted m) (hr : ∀ y ∈ m, y.rank < r) : Sorted (put m r x) := by
 unfold put; split
 · exact h
 · exact List.pairwise_append.2 ⟨h, List.pairwise_singleton _ _, fun a ha b hb => by rw [List.mem_singleton.1 hb]; exact hr a ha⟩
theorem mem_put {m : List Cell} {r x : Int} {y : Cell} (h : y ∈ put m r x) : y ∈ m ∨ (y = ⟨r, x⟩ ∧ x ≠ 1) := by
 unfold put at h; split at h
 · exact .inl h
 · rename_i hx
   rcases List.mem_append.1 h with h | h
   · exact .inl h
   · exact .inr ⟨List.mem_singleton.1 h, hx⟩
theorem mat_append_out {m : List Cell} {y : Cell} {r : Int} (h : y.rank ≠ r) : mat (m ++ [y]) r = mat m r := by
 induction m with
 | nil => simp [mat, h]
 | cons z m ih => simp only [List.cons_append, mat]; split <;> first | rfl | exact ih
theorem mat_append_new {m : List Cell} {y : Cell} (h : ∀ z ∈ m, z.rank ≠ y.rank) : mat (m ++ [y]) y.rank = y.ref := by
 induction m with
 | nil => simp [mat]
 | cons z m ih =>
  simp only [List.cons_append, mat]
  rw [if_neg (h z (List.mem_cons_self ..))]; exact ih fun w hw => h w (List.mem_cons_of_mem _ hw)
theorem mat_put {m : List Cell} {r x : Int} (hr : ∀ y ∈ m, y.rank < r) (s : Int) : mat (put m r x) s = if s = r then x else mat m s := by
 unfold put
 by_cases hx : x = 1
 · rw [if_pos hx]
   split
   · rename_i h; rw [h, hx]; exact mat_out fun y hy => by have := hr y hy; omega
   · rfl
 · rw [if_neg hx]
   split
   · rename_i h; rw [h]; exact mat_append_new (y := ⟨r, x⟩) fun z hz => by have := hr z hz; show z.rank ≠ r; omega
   · rename_i h; exact mat_append_out (y := ⟨r, x⟩) (by show r ≠ s; omega)
theorem MOk.put {c : List Gate} {N r x : Int} {m : List Cell} (h : MOk c N m) (hr : ∀ y ∈ m, y.rank < r) (h0 : 0 ≤ r) (hN : r < N) (hx : In c x) : MOk c N (put m r x) := by
 refine ⟨put_sorted h.sorted hr, fun y hy => ?_, fun y hy => ?_⟩
 · rcases mem_put hy with hy | ⟨rfl, h1⟩
   · exact h.refs y hy
   · exact ⟨hx.1, hx.2, h1⟩
 · rcases mem_put hy with hy | ⟨rfl, _⟩
   · exact h.ranks y hy
   · exact ⟨h0, hN⟩
theorem MOk.nil {c : List Gate} {N : Int} : MOk c N [] := ⟨.nil, by simp, by simp⟩
theorem MOk.mat_in' {c : List Gate} {N : Int} {m : List Cell} (h : MOk c N m) (hg : Good c) (r : Int) : In c (mat m r) := h.mat_in hg.ne r
theorem mat_up {c d : List Gate} {N : Int} {m : List Cell} {k : Nat} (h : MOk c N m) (hg : Good c) (g : Grow c d k) (V : List Bool) (r : Int) : cv d V (mat m r) = cv c V (mat m r) := (h.mat_in' hg r).cv g V
theorem zrun_ok {op : List Gate → Int → Int → List Gate × Int} {f : Bool → Bool → Bool} (hop : OpOk op f) {N : Int} : ∀ (l : List Tri) (c : List Gate) (m : List Cell), Good c → c.length + l.length ≤ 20000 → MOk c N m →
 (∀ t ∈ l, In c t.p ∧ In c t.q ∧ 0 ≤ t.rank ∧ t.rank < N) → l.Pairwise (fun s t => s.rank < t.rank) → (∀ t ∈ l, ∀ y ∈ m, y.rank < t.rank) →
 Grow c (zrun op l (c, m)).1 l.length ∧ MOk (zrun op l (c, m)).1 N (zrun op l (c, m)).2 ∧ (∀ t ∈ l, ∀ V, cv (zrun op l (c, m)).1 V (mat (zrun op l (c, m)).2 t.rank) = f (cv c V t.p) (cv c V t.q)) ∧
  ∀ r, (∀ t ∈ l, t.rank ≠ r) → mat (zrun op l (c, m)).2 r = mat m r
 | [], c, m, hg, _, hm, _, _, _ => ⟨.refl hg _, hm, by simp, fun r _ => rfl⟩
 | t :: l, c, m, hg, hl, hm, ht, hs, hlow => by
  simp only [List.length_cons] at hl
  obtain ⟨hp, hq, h0, hN⟩ := ht t (List.mem_cons_self ..)
  obtain ⟨g1, i1, v1⟩ := hop.one hg (by omega) hp hq
  have hlo := hlow t (List.mem_cons_self ..)
  obtain ⟨hs1, hs2⟩ := List.pairwise_cons.1 hs
  have hm1 : MOk (op c t.p t.q).1 N (put m t.rank (op c t.p t.q).2) := (hm.up g1.ge).put hlo h0 hN i1
  have hlen := g1.len
  obtain ⟨a1, a2, a3, a4⟩ := zrun_ok hop l (op c t.p t.q).1 (put m t.rank (op c t.p t.q).2) g1.good (by omega) hm1
   (fun s hs' => by obtain ⟨x1, x2, x3, x4⟩ := ht s (List.mem_cons_of_mem _ hs'); exact ⟨x1.up g1, x2.up g1, x3, x4⟩) hs2
   (fun s hs' y hy => by
    rcases mem_put hy with hy | ⟨rfl, _⟩
    · exact hlow s (List.mem_cons_of_mem _ hs') y hy
    · exact hs1 s hs')
  have e : zrun op (t :: l) (c, m) = zrun op l ((op c t.p t.q).1, put m t.rank (op c t.p t.q).2) := rfl
  rw [e]
  refine ⟨(g1.trans a1).more (by simp; omega), a2, fun s hs' V => ?_, fun r hr => ?_⟩
  · rcases List.mem_cons.1 hs' with rfl | hs'
    · rw [a4 s.rank (fun u hu => by have := hs1 u hu; omega), mat_put hlo, if_pos rfl, i1.cv a1 V, v1 V]
    · obtain ⟨x1, x2, _⟩ := ht s (List.mem_cons_of_mem _ hs')
      rw [a3 s hs' V, x1.cv g1 V, x2.cv g1 V]
  · rw [a4 r (fun u hu => hr u (List.mem_cons_of_mem _ hu)), mat_put hlo, if_neg (fun h => hr t (List.mem_cons_self ..) h.symm)]
theorem zip_ok {op : List Gate → Int → Int → List Gate × Int} {f : Bool → Bool → Bool} (hop : OpOk op f) (hf : f false false = false) {N : Int} {c : List Gate} {a b : List Cell} (hg : Good c) (hl : c.length + (a.length + b.length) ≤ 20000) (ha : MOk c N a) (hb : MOk c N b) :
 Grow c (zrun op (mzip a b) (c, [])).1 (a.length + b.length) ∧ MOk (zrun op (mzip a b) (c, [])).1 N (zrun op (mzip a b) (c, [])).2 ∧
  ∀ V r, cv (zrun op (mzip a b) (c, [])).1 V (mat (zrun op (mzip a b) (c, [])).2 r) = f (cv c V (mat a r)) (cv c V (mat b r)) := by
 obtain ⟨s1, s2, s3, s4⟩ := mzip_spec a b ha.sorted hb.sorted
 have hlen := mzip_len a b
 obtain ⟨a1, a2, a3, a4⟩ := zrun_ok hop (N := N) (mzip a b) c [] hg (by omega) MOk.nil (fun t ht => by
  obtain ⟨e1, e2, e3⟩ := s1 t ht
  refine ⟨by rw [e1]; exact ha.mat_in' hg _, by rw [e2]; exact hb.mat_in' hg _, ?_⟩
  rcases e3 with ⟨x, hx, e⟩ | ⟨x, hx, e⟩
  · rw [← e]; exact ha.ranks x hx
  · rw [← e]; exact hb.ranks x hx) s2 (fun _ _ y hy => by cases hy)
 refine ⟨a1.more hlen, a2, fun V r => ?_⟩
 by_cases h : ∃ t ∈ mzip a b, t.rank = r
 · obtain ⟨t, ht, rfl⟩ := h
   obtain ⟨e1, e2, _⟩ := s1 t ht
   rw [a3 t ht V, e1, e2]
 · have e0 : ∀ t ∈ mzip a b, t.rank ≠ r := fun t ht e => h ⟨t, ht, e⟩
   have ea : mat a r = 1 := mat_out fun x hx e => by obtain ⟨t, ht, e'⟩ := s3 x hx; exact e0 t ht (e'.trans e)
   have eb : mat b r = 1 := mat_out fun x hx e => by obtain ⟨t, ht, e'⟩ := s4 x hx; exact e0 t ht (e'.trans e)
   rw [a4 r e0, ea, eb]
   show cv _ V 1 = _
   rw [cv_1 a1.good, cv_1 hg, hf]
theorem union_ok {N : Int} {c : List Gate} {a b : List Cell} (hg : Good c) (hl : c.length + (a.length + b.length) ≤ 20000) (ha : MOk c N a) (hb : MOk c N b) :
 Grow c (mUnion c a b).1 (a.length + b.length) ∧ MOk (mUnion c a b).1 N (mUnion c a b).2 ∧ ∀ V r, cv (mUnion c a b).1 V (mat (mUnion c a b).2 r) = (cv c V (mat a r) || cv c V (mat b r)) := zip_ok ok_or rfl hg hl ha hb
theorem inter_ok {N : Int} {c : List Gate} {a b : List Cell} (hg : Good c) (hl : c.length + (a.length + b.length) ≤ 20000) (ha : MOk c N a) (hb : MOk c N b) :
 Grow c (mInter c a b).1 (a.length + b.length) ∧ MOk (mInter c a b).1 N (mInter c a b).2 ∧ ∀ V r, cv (mInter c a b).1 V (mat (mInter c a b).2 r) = (cv c V (mat a r) && cv c V (mat b r)) := zip_ok ok_and rfl hg hl ha hb
theorem diff_ok {N : Int} {c : List Gate} {a b : List Cell} (hg : Good c) (hl : c.length + (a.length + b.length) ≤ 20000) (ha : MOk c N a) (hb : MOk c N b) :
 Grow c (mDiff c a b).1 (a.length + b.length) ∧ MOk (mDiff c a b).1 N (mDiff c a b).2 ∧ ∀ V r, cv (mDiff c a b).1 V (mat (mDiff c a b).2 r) = (cv c V (mat a r) && !cv c V (mat b r)) := zip_ok ok_but rfl hg hl ha hb
end Go.Proofs.Ytadilppdlbhjnaa
namespace Go.Proofs.Ytadilppdlbhjnaa
set_option linter.unusedSimpArgs false
set_option linter.unusedVariables false
theorem sl_ext : ∀ {l m : List Int}, l.Pairwise (· < ·) → m.Pairwise (· < ·) → (∀ r, r ∈ l ↔ r ∈ m) → l = m
 | [], [], _, _, _ => rfl
 | [], y :: m, _, _, h => absurd ((h y).2 (List.mem_cons_self ..)) (by simp)
 | x :: l, [], _, _, h => absurd ((h x).1 (List.mem_cons_self ..)) (by simp)
 | x :: l, y :: m, hl, hm, h => by
  obtain ⟨h1, h2⟩ := List.pairwise_cons.1 hl
  obtain ⟨k1, k2⟩ := List.pairwise_cons.1 hm
  have e : x = y := by
   rcases List.mem_cons.1 ((h x).1 (List.mem_cons_self ..)) with e | e
   · exact e
   · rcases List.mem_cons.1 ((h y).2 (List.mem_cons_self ..)) with e' | e'
     · exact e'.symm
     · have := k1 x e; have := h1 y e'; omega
  subst e
  rw [sl_ext h2 k2 fun r => ?_]
  constructor
  · intro hr
    rcases List.mem_cons.1 ((h r).1 (List.mem_cons_of_mem _ hr)) with e | e
    · have := h1 r hr; omega
    · exact e
  · intro hr
    rcases List.mem_cons.1 ((h r).2 (List.mem_cons_of_mem _ hr)) with e | e
    · have := k1 r hr; omega
    · exact e
def gather (ks : List Int) (S : Int → Int) : List Cell := ks.foldl (fun m r => put m r (S r)) []
theorem gather_snoc (ks : List Int) (r : Int) (S : Int → Int) : gather (ks ++ [r]) S = put (gather ks S) r (S r) := by simp [gather, List.foldl_append]
theorem gather_eq (ks : List Int) (S : Int → Int) : gather ks S = (ks.filter fun r => S r != 1).map fun r => ⟨r, S r⟩ := by
 have key : ∀ (ks : List Int) (m : List Cell), ks.foldl (fun m r => put m r (S r)) m = m ++ (ks.filter fun r => S r != 1).map fun r => ⟨r, S r⟩ := by
  intro ks
  induction ks with
  | nil => intro m; simp
  | cons k ks ih =>
   intro m
   simp only [List.foldl_cons]
   rw [ih]
   unfold put
   by_cases h : S k = 1
   · rw [if_pos h, List.filter_cons_of_neg (by simp [h])]
   · rw [if_neg h, List.filter_cons_of_pos (by simp [h])]; simp
 exact (key ks []).trans (by simp)
theorem gather_ext {ks ks' : List Int} {S : Int → Int} (h : ks.Pairwise (· < ·)) (h' : ks'.Pairwise (· < ·)) (e : ∀ r, S r ≠ 1 → (r ∈ ks ↔ r ∈ ks')) : gather ks S = gather ks' S := by
 rw [gather_eq, gather_eq, sl_ext (l := ks.filter fun r => S r != 1) (m := ks'.filter fun r => S r != 1) (h.filter _) (h'.filter _) fun r => ?_]
 rw [List.mem_filter, List.mem_filter]
 constructor
 · rintro ⟨h1, h2⟩; exact ⟨(e r (by simpa using h2)).1 h1, h2⟩
 · rintro ⟨h1, h2⟩; exact ⟨(e r (by simpa using h2)).2 h1, h2⟩
theorem gather_mem {ks : List Int} {S : Int → Int} {x : Cell} (h : x ∈ gather ks S) : x.rank ∈ ks ∧ x.ref = S x.rank ∧ x.ref ≠ 1 := by
 rw [gather_eq] at h
 obtain ⟨r, hr, rfl⟩ := List.mem_map.1 h
 obtain ⟨h1, h2⟩ := List.mem_filter.1 hr
 exact ⟨h1, rfl, by simpa using h2⟩
theorem gather_sorted {ks : List Int} {S : Int → Int} (h : ks.Pairwise (· < ·)) : Sorted (gather ks S) := by
 rw [gather_eq]
 exact List.pairwise_map.2 (h.filter _)
def ranksTo (N : Nat) : List Int := (List.range N).map Int.ofNat
theorem ranksTo_sl (N : Nat) : (ranksTo N).Pairwise (· < ·) := by
 unfold ranksTo
 rw [List.pairwise_map]
 exact List.pairwise_lt_range.imp fun h => by show ((_ : Nat) : Int) < ((_ : Nat) : Int); omega
theorem mem_ranksTo {N : Nat} {r : Int} : r ∈ ranksTo N ↔ 0 ≤ r ∧ r < (N : Int) := by
 unfold ranksTo
 rw [List.mem_map]
 constructor
 · rintro ⟨k, hk, rfl⟩; have := List.mem_range.1 hk; exact ⟨by show (0 : Int) ≤ ((k : Nat) : Int); omega, by show ((k : Nat) : Int) < _; omega⟩
 · rintro ⟨h1, h2⟩; exact ⟨r.toNat, List.mem_range.2 (by omega), by show ((r.toNat : Nat) : Int) = r; omega⟩
def jpairs (n p : Int) (a b : List Cell) : List Tri := a.flatMap fun x => (b.filter fun y => x.rank % n == y.rank / p).map fun y => ⟨x.rank / n * p + y.rank % p, x.ref, y.ref⟩
def jstep (x : List Gate × (Int → Int)) (t : Tri) : List Gate × (Int → Int) :=
 ((cor (cand x.1 t.p t.q).1 (x.2 t.rank) (cand x.1 t.p t.q).2).1, fun r => if r = t.rank then (cor (cand x.1 t.p t.q).1 (x.2 t.rank) (cand x.1 t.p t.q).2).2 else x.2 r)
def jrun (l : List Tri) (x : List Gate × (Int → Int)) : List Gate × (Int → Int) := l.foldl jstep x
def mJoin (c : List Gate) (N : Nat) (n p : Int) (a b : List Cell) : List Gate × List Cell := ((jrun (jpairs n p a b) (c, fun _ => 1)).1, gather (ranksTo N) (jrun (jpairs n p a b) (c, fun _ => 1)).2)
theorem jrun_ok : ∀ (l : List Tri) (c : List Gate) (S : Int → Int), Good c → c.length + 2 * l.length ≤ 20000 → (∀ r, In c (S r)) → (∀ t ∈ l, In c t.p ∧ In c t.q) →
 Grow c (jrun l (c, S)).1 (2 * l.length) ∧ (∀ r, In (jrun l (c, S)).1 ((jrun l (c, S)).2 r)) ∧ (∀ V r, cv (jrun l (c, S)).1 V ((jrun l (c, S)).2 r) = (cv c V (S r) || l.any fun t => t.rank == r && (cv c V t.p && cv c V t.q))) ∧
  ∀ r, (∀ t ∈ l, t.rank ≠ r) → (jrun l (c, S)).2 r = S r
 | [], c, S, hg, _, hS, _ => ⟨.refl hg _, hS, fun V r => by simp [jrun], fun r _ => rfl⟩
 | t :: l, c, S, hg, hl, hS, ht => by
  simp only [List.length_cons] at hl
  obtain ⟨hp, hq⟩ := ht t (List.mem_cons_self ..)
  obtain ⟨g1, i1, v1⟩ := ok_and.one hg (by omega) hp hq
  have l1 := g1.len
  obtain ⟨g2, i2, v2⟩ := ok_or.one g1.good (by omega) ((hS t.rank).up g1) i1
  have l2 := g2.len
  have g3 := g1.trans g2
  have e : jrun (t :: l) (c, S) = jrun l (jstep (c, S) t) := rfl
  rw [e]
  obtain ⟨a1, a2, a3, a4⟩ := jrun_ok l (jstep (c, S) t).1 (jstep (c, S) t).2 g2.good (by show (cor (cand c t.p t.q).1 (S t.rank) (cand c t.p t.q).2).1.length + 2 * l.length ≤ 20000; omega)
   (fun r => by
    show In _ (if r = t.rank then _ else _)
    split
    · exact i2
    · exact (hS r).up g3) (fun s hs => ⟨(ht s (List.mem_cons_of_mem _ hs)).1.up g3, (ht s (List.mem_cons_of_mem _ hs)).2.up g3⟩)
  refine ⟨(g3.trans a1).more (by simp; omega), a2, fun V r => ?_, fun r hr => ?_⟩
  · have e1 : ∀ s ∈ l, (s.rank == r && (cv (jstep (c, S) t).1 V s.p && cv (jstep (c, S) t).1 V s.q)) = (s.rank == r && (cv c V s.p && cv c V s.q)) := fun s hs => by
     obtain ⟨h1, h2⟩ := ht s (List.mem_cons_of_mem _ hs)
     rw [show cv (jstep (c, S) t).1 V s.p = cv c V s.p from h1.cv g3 V, show cv (jstep (c, S) t).1 V s.q = cv c V s.q from h2.cv g3 V]
    have e2 : l.any (fun s => s.rank == r && (cv (jstep (c, S) t).1 V s.p && cv (jstep (c, S) t).1 V s.q)) = l.any (fun s => s.rank == r && (cv c V s.p && cv c V s.q)) := by
     rw [Bool.eq_iff_iff, List.any_eq_true, List.any_eq_true]
     constructor
     · rintro ⟨s, hs, h⟩; exact ⟨s, hs, by rw [← e1 s hs]; exact h⟩
     · rintro ⟨s, hs, h⟩; exact ⟨s, hs, by rw [e1 s hs]; exact h⟩
    rw [a3 V r, e2, List.any_cons]
    have hv : cv (jstep (c, S) t).1 V ((jstep (c, S) t).2 r) = (cv c V (S r) || (t.rank == r && (cv c V t.p && cv c V t.q))) := by
     show cv (cor (cand c t.p t.q).1 (S t.rank) (cand c t.p t.q).2).1 V (if r = t.rank then (cor (cand c t.p t.q).1 (S t.rank) (cand c t.p t.q).2).2 else S r) = _
     by_cases h : r = t.rank
     · rw [if_pos h, v2 V, v1 V, (hS t.rank).cv g1 V, h]; simp
     · rw [if_neg h, (hS r).cv g3 V]
       have : (t.rank == r) = false := by simp; omega
       rw [this]; simp
    rw [hv, Bool.or_assoc]
  · rw [a4 r fun s hs => hr s (List.mem_cons_of_mem _ hs)]
    show (if r = t.rank then _ else _) = _
    rw [if_neg fun h => hr t (List.mem_cons_self ..) h.symm]
theorem jpairs_len (n p : Int) (a b : List Cell) : (jpairs n p a b).length ≤ a.length * b.length := by
 induction a with
 | nil => simp [jpairs]
 | cons x a ih =>
  have h1 : (jpairs n p (x :: a) b).length = (b.filter fun y => x.rank % n == y.rank / p).length + (jpairs n p a b).length := by simp [jpairs]
  have h2 : (b.filter fun y => x.rank % n == y.rank / p).length ≤ b.length := List.length_filter_le _ _
  rw [h1, List.length_cons, Nat.succ_mul]; omega
theorem mem_jpairs {n p : Int} {a b : List Cell} {t : Tri} : t ∈ jpairs n p a b ↔ ∃ x ∈ a, ∃ y ∈ b, x.rank % n = y.rank / p ∧ t = ⟨x.rank / n * p + y.rank % p, x.ref, y.ref⟩ := by
 simp only [jpairs, List.mem_flatMap, List.mem_map, List.mem_filter, beq_iff_eq]
 constructor
 · rintro ⟨x, hx, y, ⟨hy, h⟩, rfl⟩; exact ⟨x, hx, y, hy, h, rfl⟩
 · rintro ⟨x, hx, y, hy, h, rfl⟩; exact ⟨x, hx, y, ⟨hy, h⟩, rfl⟩
theorem MOk.ref_in {c : List Gate} {N : Int} {m : List Cell} (h : MOk c N m) {x : Cell} (hx : x ∈ m) : In c x.ref := ⟨(h.refs x hx).1, (h.refs x hx).2.1⟩
def orAll (l : List Int) (x : List Gate × Int) : List Gate × Int := l.foldl (fun x r => cor x.1 x.2 r) x
theorem orAll_ok : ∀ (l : List Int) (c : List Gate) (s : Int), Good c → c.length + l.length ≤ 20000 → In c s → (∀ r ∈ l, In c r) →
 Grow c (orAll l (c, s)).1 l.length ∧ In (orAll l (c, s)).1 (orAll l (c, s)).2 ∧ ∀ V, cv (orAll l (c, s)).1 V (orAll l (c, s)).2 = (cv c V s || l.any fun r => cv c V r)
 | [], c, s, hg, _, hs, _ => ⟨.refl hg _, hs, fun V => by simp [orAll]⟩
 | r :: l, c, s, hg, hl, hs, hr => by
  simp only [List.length_cons] at hl
  obtain ⟨g1, i1, v1⟩ := ok_or.one hg (by omega) hs (hr r (List.mem_cons_self ..))
  have l1 := g1.len
  have e : orAll (r :: l) (c, s) = orAll l (cor c s r) := rfl
  rw [e]
  obtain ⟨a1, a2, a3⟩ := orAll_ok l (cor c s r).1 (cor c s r).2 g1.good (by omega) i1 (fun q hq => (hr q (List.mem_cons_of_mem _ hq)).up g1)
  refine ⟨(g1.trans a1).more (by simp; omega), a2, fun V => ?_⟩
  rw [show orAll l (cor c s r) = orAll l ((cor c s r).1, (cor c s r).2) from rfl, a3 V, v1 V, List.any_cons, Bool.or_assoc]
  congr 2
  rw [Bool.eq_iff_iff, List.any_eq_true, List.any_eq_true]
  constructor
  · rintro ⟨q, hq, h⟩; exact ⟨q, hq, by rw [← (hr q (List.mem_cons_of_mem _ hq)).cv g1 V]; exact h⟩
  · rintro ⟨q, hq, h⟩; exact ⟨q, hq, by rw [(hr q (List.mem_cons_of_mem _ hq)).cv g1 V]; exact h⟩
def mSome (c : List Gate) (a : List Cell) : List Gate × Int := orAll (a.map Cell.ref) (c, 1)
def inStep (b : List Cell) (x : List Gate × Int) (y : Cell) : List Gate × Int := cbut (cbut x.1 y.ref (mat b y.rank)).1 x.2 (cbut x.1 y.ref (mat b y.rank)).2
def mIn (c : List Gate) (a b : List Cell) : List Gate × Int := a.foldl (inStep b) (c, 0)
theorem inRun_ok {N : Int} : ∀ (a : List Cell) (c : List Gate) (b : List Cell) (s : Int), Good c → c.length + 2 * a.length ≤ 20000 → In c s → (∀ x ∈ a, In c x.ref) → MOk c N b →
 Grow c (a.foldl (inStep b) (c, s)).1 (2 * a.length) ∧ In (a.foldl (inStep b) (c, s)).1 (a.foldl (inStep b) (c, s)).2 ∧ ∀ V, cv (a.foldl (inStep b) (c, s)).1 V (a.foldl (inStep b) (c, s)).2 = (cv c V s && a.all fun x => !(cv c V x.ref && !cv c V (mat b x.rank)))
 | [], c, b, s, hg, _, hs, _, _ => ⟨.refl hg _, hs, fun V => by simp⟩
 | y :: a, c, b, s, hg, hl, hs, hr, hb => by
  simp only [List.length_cons] at hl
  obtain ⟨g1, i1, v1⟩ := ok_but.one hg (by omega) (hr y (List.mem_cons_self ..)) (hb.mat_in' hg y.rank)
  have l1 := g1.len
  obtain ⟨g2, i2, v2⟩ := ok_but.one g1.good (by omega) (hs.up g1) i1
  have l2 := g2.len
  have g3 := g1.trans g2
  obtain ⟨a1, a2, a3⟩ := inRun_ok a (inStep b (c, s) y).1 b (inStep b (c, s) y).2 g2.good (by show (cbut (cbut c y.ref (mat b y.rank)).1 s (cbut c y.ref (mat b y.rank)).2).1.length + 2 * a.length ≤ 20000; omega) i2 (fun x hx => (hr x (List.mem_cons_of_mem _ hx)).up g3) (hb.up g3.ge)
  rw [List.foldl_cons]
  refine ⟨(g3.trans a1).more (by simp; omega), a2, fun V => ?_⟩
  rw [show a.foldl (inStep b) (inStep b (c, s) y) = a.foldl (inStep b) ((inStep b (c, s) y).1, (inStep b (c, s) y).2) from rfl, a3 V]
  rw [show cv (inStep b (c, s) y).1 V (inStep b (c, s) y).2 = (cv c V s && !(cv c V y.ref && !cv c V (mat b y.rank))) from by show cv (cbut (cbut c y.ref (mat b y.rank)).1 s (cbut c y.ref (mat b y.rank)).2).1 V (cbut (cbut c y.ref (mat b y.rank)).1 s (cbut c y.ref (mat b y.rank)).2).2 = _; rw [v2 V, v1 V, hs.cv g1 V]]
  rw [List.all_cons, Bool.and_assoc]
  congr 2
  rw [Bool.eq_iff_iff, List.all_eq_true, List.all_eq_true]
  constructor
  · intro h x hx; have := h x hx; rw [(show cv (inStep b (c, s) y).1 V x.ref = cv c V x.ref from (hr x (List.mem_cons_of_mem _ hx)).cv g3 V), (show cv (inStep b (c, s) y).1 V (mat b x.rank) = cv c V (mat b x.rank) from mat_up hb hg g3 V _)] at this; exact this
  · intro h x hx; have := h x hx; rw [(show cv (inStep b (c, s) y).1 V x.ref = cv c V x.ref from (hr x (List.mem_cons_of_mem _ hx)).cv g3 V), (show cv (inStep b (c, s) y).1 V (mat b x.rank) = cv c V (mat b x.rank) from mat_up hb hg g3 V _)]; exact this
end Go.Proofs.Ytadilppdlbhjnaa
namespace Go.Proofs.Ytadilppdlbhjnaa
set_option linter.unusedSimpArgs false
set_option linter.unusedVariables false
def loneStep (x : List Gate × Int × Int) (y : Cell) : List Gate × Int × Int :=
 let u := cand x.1 x.2.1 y.ref
 let t := cor u.1 x.2.2 u.2
 let s := cor t.1 x.2.1 y.ref
 (s.1, s.2, t.2)
def loneRun (a : List Cell) (x : List Gate × Int × Int) : List Gate × Int × Int := a.foldl loneStep x
def mLone (c : List Gate) (a : List Cell) : List Gate × Int := ((loneRun a (c, 1, 1)).1, cnot (loneRun a (c, 1, 1)).2.2)
def domRow (p : Int) (b : List Cell) (x : Int) : List Int := (b.filter fun y => y.rank / p == x).map Cell.ref
def domTo (p : Int) (b : List Cell) (c : List Gate) : Nat → List Gate × List Int
 | 0 => (c, [])
 | k + 1 => ((orAll (domRow p b k) ((domTo p b c k).1, 1)).1, (domTo p b c k).2 ++ [(orAll (domRow p b k) ((domTo p b c k).1, 1)).2])
def overStep (p : Int) (doms : List Int) (x : List Gate × List Cell) (t : Tri) : List Gate × List Cell :=
 let k := if t.p = 1 then (x.1, 1) else cbut x.1 t.p (doms.getD (t.rank / p).toNat 1)
 ((cor k.1 k.2 t.q).1, put x.2 t.rank (cor k.1 k.2 t.q).2)
def overRun (p : Int) (doms : List Int) (l : List Tri) (x : List Gate × List Cell) : List Gate × List Cell := l.foldl (overStep p doms) x
def mOverride (c : List Gate) (n : Nat) (p : Int) (a b : List Cell) : List Gate × List Cell := overRun p (domTo p b c n).2 (mzip a b) ((domTo p b c n).1, [])
def mTranspose (n : Nat) (a : List Cell) : List Cell := gather (ranksTo (n * n)) fun r => mat a (r % n * n + r / n)
def mConst (l : List Int) : List Cell := l.map fun t => ⟨t, 0⟩
def mValue (c : List Gate) (V : List Bool) (m : List Cell) : List Int := (m.filter fun x => ceval c V x.ref).map Cell.rank
theorem rank_lt {n : Nat} {r : Int} (h0 : 0 ≤ r) (h : r < ((n * n : Nat) : Int)) : 0 ≤ r / (n : Int) ∧ r / (n : Int) < n ∧ 0 ≤ r % (n : Int) ∧ r % (n : Int) < n ∧ r / (n : Int) * n + r % (n : Int) = r := by
  have hn : 0 < (n : Int) := by
    rcases Nat.eq_zero_or_pos n with rfl | h'
    · simp at h; omega
    · omega
  have e := Int.mul_ediv_add_emod r n
  have h1 := Int.emod_nonneg r (by omega : (n : Int) ≠ 0)
  have h2 := Int.emod_lt_of_pos r hn
  have h3 : 0 ≤ r / (n : Int) := Int.ediv_nonneg h0 (by omega)
  have h4 : r / (n : Int) < n := Int.ediv_lt_of_lt_mul hn (by have : ((n * n : Nat) : Int) = (n : Int) * n := by simp
                                                              omega)
  exact ⟨h3, h4, h1, h2, by rw [Int.mul_comm]; exact e⟩
theorem pair_lt {n : Nat} {x y : Int} (hx0 : 0 ≤ x) (hx : x < n) (hy0 : 0 ≤ y) (hy : y < n) : 0 ≤ x * n + y ∧ x * n + y < ((n * n : Nat) : Int) ∧ (x * n + y) / (n : Int) = x ∧ (x * n + y) % (n : Int) = y := by
  have hn : 0 < (n : Int) := by omega
  have h1 : (x * n + y) / (n : Int) = x := by
    rw [Int.add_comm, Int.add_mul_ediv_right _ _ (by omega), Int.ediv_eq_zero_of_lt hy0 hy]; omega
  have h2 : (x * n + y) % (n : Int) = y := by
    rw [Int.add_comm, Int.add_mul_emod_self_right, Int.emod_eq_of_lt hy0 hy]
  have h3 : 0 ≤ x * (n : Int) := Int.mul_nonneg hx0 (by omega)
  have h4 : x * (n : Int) + n ≤ (n : Int) * n := by
    have : (x + 1) * (n : Int) ≤ (n : Int) * n := Int.mul_le_mul_of_nonneg_right (by omega) (by omega)
    rw [Int.add_mul] at this; omega
  exact ⟨by omega, by have : ((n * n : Nat) : Int) = (n : Int) * n := by simp
                      omega, h1, h2⟩
theorem sorted_len : ∀ {m : List Cell} {lo N : Int}, Sorted m → (∀ x ∈ m, lo ≤ x.rank ∧ x.rank < N) → m.length ≤ (N - lo).toNat
 | [], _, _, _, _ => Nat.zero_le _
 | x :: m, lo, N, hs, h => by
  have h1 := h x (List.mem_cons_self ..)
  have := sorted_len (lo := x.rank + 1) (N := N) hs.tail fun y hy => ⟨by have := hs.lt y hy; omega, (h y (List.mem_cons_of_mem _ hy)).2⟩
  simp only [List.length_cons]; omega
theorem MOk.len {c : List Gate} {N : Nat} {m : List Cell} (h : MOk c N m) : m.length ≤ N := by
 have := sorted_len h.sorted h.ranks
 omega
end Go.Proofs.Ytadilppdlbhjnaa
namespace Go.Proofs.Ytadilppdlbhjnaa
set_option linter.unusedSimpArgs false
set_option linter.unusedVariables false
def Tr (c : List Gate) (V : List Bool) (m : List Cell) (r : Int) : Prop := cv c V (mat m r) = true
end Go.Proofs.Ytadilppdlbhjnaa
namespace Go.Proofs.Ytadilppdlbhjnaa
set_option linter.unusedSimpArgs false
set_option linter.unusedVariables false
def PathN (n : Nat) (R : Int → Int → Prop) : Nat → Int → Int → Prop
 | 0, _, _ => False
 | m + 1, x, y => R x y ∨ ∃ z : Int, 0 ≤ z ∧ z < n ∧ PathN n R m x z ∧ R z y
section
variable {n : Nat} {R : Int → Int → Prop}
theorem PathN.step : ∀ {m : Nat} {x y : Int}, PathN n R m x y → PathN n R (m + 1) x y
 | m + 1, x, y, h => by
  rcases h with h | ⟨z, h0, h1, h2, h3⟩
  · exact .inl h
  · exact .inr ⟨z, h0, h1, h2.step, h3⟩
theorem PathN.mono {m k : Nat} {x y : Int} (h : PathN n R m x y) (hk : m ≤ k) : PathN n R k x y := by
 obtain ⟨d, rfl⟩ := Nat.le.dest hk
 clear hk
 induction d with
 | zero => exact h
 | succ d ih => exact ih.step
theorem PathN.cat {a : Nat} {x z : Int} (h : PathN n R a x z) (hz0 : 0 ≤ z) (hz : z < n) : ∀ {b : Nat} {y : Int}, PathN n R b z y → PathN n R (a + b) x y
 | b + 1, y, k => by
  rcases k with k | ⟨u, h0, h1, h2, h3⟩
  · exact .inr ⟨z, hz0, hz, h.mono (Nat.le_add_right a b), k⟩
  · exact .inr ⟨u, h0, h1, PathN.cat h hz0 hz h2, h3⟩
theorem PathN.split {a : Nat} (ha : 0 < a) {x : Int} : ∀ {b : Nat} {y : Int}, PathN n R (a + b) x y → PathN n R a x y ∨ ∃ z : Int, 0 ≤ z ∧ z < n ∧ PathN n R a x z ∧ PathN n R b z y
 | 0, y, h => .inl h
 | b + 1, y, h => by
  rcases h with h | ⟨u, h0, h1, h2, h3⟩
  · exact .inl (PathN.mono (m := 1) (.inl h) ha)
  · rcases PathN.split ha h2 with h | ⟨z, z0, z1, z2, z3⟩
    · exact .inr ⟨u, h0, h1, h, .inl h3⟩
    · exact .inr ⟨z, z0, z1, z2, .inr ⟨u, h0, h1, z3, h3⟩⟩
open Classical in
noncomputable def cntP (n : Nat) (P : Int → Prop) : Nat := ((List.range n).filter fun (k : Nat) => decide (P (k : Int))).length
open Classical in
theorem cntP_le (P : Int → Prop) : cntP n P ≤ n := by unfold cntP; have := List.length_filter_le (fun (k : Nat) => decide (P (k : Int))) (List.range n); simpa using this
open Classical in
theorem filter_lt {l : List Nat} {p q : Nat → Bool} (h : ∀ k ∈ l, p k = true → q k = true) {u : Nat} (hu : u ∈ l) (h1 : p u = false) (h2 : q u = true) : (l.filter p).length < (l.filter q).length := by
 induction l with
 | nil => cases hu
 | cons a l ih =>
  have hle : ∀ (l : List Nat), (∀ k ∈ l, p k = true → q k = true) → (l.filter p).length ≤ (l.filter q).length := by
   intro l
   induction l with
   | nil => intro _; simp
   | cons b l ih =>
    intro h
    have i := ih fun k hk => h k (List.mem_cons_of_mem _ hk)
    have hb := h b (List.mem_cons_self ..)
    cases hp : p b <;> cases hq : q b <;> simp [hp, hq] at hb ⊢ <;> omega
  have ht := hle l fun k hk => h k (List.mem_cons_of_mem _ hk)
  rcases List.mem_cons.1 hu with rfl | hu
  · simp [h1, h2]; omega
  · have i := ih (fun k hk => h k (List.mem_cons_of_mem _ hk)) hu
    have ha := h a (List.mem_cons_self ..)
    cases hp : p a <;> cases hq : q a <;> simp [hp, hq] at ha ⊢ <;> omega
open Classical in
theorem cntP_lt {P Q : Int → Prop} (h : ∀ y, P y → Q y) {y : Int} (h0 : 0 ≤ y) (h1 : y < n) (hp : ¬ P y) (hq : Q y) : cntP n P < cntP n Q := by
 unfold cntP
 obtain ⟨k, rfl⟩ : ∃ k : Nat, y = k := ⟨y.toNat, by omega⟩
 exact filter_lt (fun k _ hk => by simp at hk ⊢; exact h _ hk) (u := k) (List.mem_range.2 (by omega)) (by simp [hp]) (by simp [hq])
theorem PathN.stable {m : Nat} {x : Int} (h : ∀ y : Int, 0 ≤ y → y < n → PathN n R (m + 1) x y → PathN n R m x y) : ∀ {k : Nat} {y : Int}, 0 ≤ y → y < n → PathN n R (m + k) x y → PathN n R m x y
 | 0, y, _, _, hp => hp
 | k + 1, y, h0, h1, hp => by
  rcases hp with hp | ⟨z, z0, z1, z2, z3⟩
  · exact h y h0 h1 (.inl hp)
  · exact h y h0 h1 (.inr ⟨z, z0, z1, PathN.stable h z0 z1 z2, z3⟩)
theorem PathN.enough {m : Nat} {x y : Int} (h0 : 0 ≤ y) (h1 : y < n) (h : PathN n R m x y) : PathN n R n x y := by
 by_cases hst : ∃ i, i ≤ n ∧ ∀ y : Int, 0 ≤ y → y < n → PathN n R (i + 1) x y → PathN n R i x y
 · obtain ⟨i, hi, hs⟩ := hst
   have h2 : PathN n R (i + m) x y := h.mono (by omega)
   exact (PathN.stable hs h0 h1 h2).mono hi
 · exfalso
   have key : ∀ i, i ≤ n + 1 → i ≤ cntP n (PathN n R i x) := by
    intro i
    induction i with
    | zero => intro _; omega
    | succ i ih =>
     intro hi
     have h3 := ih (by omega)
     obtain ⟨y, y0, y1, y2, y3⟩ : ∃ y : Int, 0 ≤ y ∧ y < n ∧ PathN n R (i + 1) x y ∧ ¬ PathN n R i x y := by
      refine Classical.byContradiction fun hn => hst ⟨i, by omega, fun y y0 y1 y2 => Classical.byContradiction fun y3 => hn ⟨y, y0, y1, y2, y3⟩⟩
     have := cntP_lt (n := n) (P := PathN n R i x) (Q := PathN n R (i + 1) x) (fun y h => h.step) y0 y1 y3 y2
     omega
   have h4 := key (n + 1) (Nat.le_refl _)
   have h5 := cntP_le (n := n) (PathN n R (n + 1) x)
   omega
end
def RelOf (n : Nat) (c : List Gate) (V : List Bool) (m : List Cell) (x y : Int) : Prop := Tr c V m (x * n + y)
section
variable {n : Nat} {a : List Cell} {c : List Gate} (hn : n ≤ 4) (hg : Good c) (ha : MOk c ((n * n : Nat) : Int) a) (V : List Bool)
include hn hg ha
end
end Go.Proofs.Ytadilppdlbhjnaa
namespace Go.Proofs.Ytadilppdlbhjnaa
set_option linter.unusedSimpArgs false
set_option linter.unusedVariables false
def rtri (a b : List Cell) : List Tri := (mzip a b).map fun t => ⟨t.rank, mat a t.rank, mat b t.rank⟩
theorem rtri_eq {a b : List Cell} (ha : Sorted a) (hb : Sorted b) : rtri a b = mzip a b := by
 obtain ⟨h1, _⟩ := mzip_spec a b ha hb
 unfold rtri
 have e : (mzip a b).map id = mzip a b := List.map_id _
 refine (List.map_congr_left fun t ht => ?_).trans e
 obtain ⟨e1, e2, _⟩ := h1 t ht
 show (⟨t.rank, mat a t.rank, mat b t.rank⟩ : Tri) = t
 rw [← e1, ← e2]
def itri (a b : List Cell) : List Tri := a.map fun x => ⟨x.rank, x.ref, mat b x.rank⟩
theorem itri_congr {a b b' : List Cell} (h : ∀ z ∈ a, mat b z.rank = mat b' z.rank) : itri a b = itri a b' := by
 unfold itri
 exact List.map_congr_left fun z hz => by rw [h z hz]
theorem mat_skip {y : Cell} {ys : List Cell} {r : Int} (h : y.rank ≠ r) : mat (y :: ys) r = mat ys r := by rw [mat, if_neg h]
theorem mat_here {y : Cell} {ys : List Cell} {r : Int} (h : y.rank = r) : mat (y :: ys) r = y.ref := by rw [mat, if_pos h]
theorem mzip_filter (a b : List Cell) : Sorted a → Sorted b → (∀ x ∈ a, x.ref ≠ 1) → (mzip a b).filter (fun t => t.p != 1) = itri a b := by
 refine mzip_ind (P := fun a b => Sorted a → Sorted b → (∀ x ∈ a, x.ref ≠ 1) → (mzip a b).filter (fun t => t.p != 1) = itri a b) ?_ ?_ ?_ ?_ a b
 · intro _ _ _; rfl
 · intro x xs ih ha hb h1
   have hx := h1 x (List.mem_cons_self ..)
   rw [mzip_left, List.filter_cons_of_pos (by simpa using hx), ih ha.tail hb (fun z hz => h1 z (List.mem_cons_of_mem _ hz))]
   rfl
 · intro y ys ih ha hb h1
   rw [mzip_right, List.filter_cons_of_neg (by simp), ih ha hb.tail h1]; rfl
 · intro x xs y ys i1 i2 i3 ha hb h1
   have hx := h1 x (List.mem_cons_self ..)
   have ht : ∀ z ∈ xs, z.ref ≠ 1 := fun z hz => h1 z (List.mem_cons_of_mem _ hz)
   rw [mzip_cons]
   by_cases c1 : x.rank < y.rank
   · rw [if_pos c1, List.filter_cons_of_pos (by simpa using hx), i1 c1 ha.tail hb ht]
     show _ = (⟨x.rank, x.ref, mat (y :: ys) x.rank⟩ : Tri) :: itri xs (y :: ys)
     rw [mat_low fun z hz => ?_]
     rcases List.mem_cons.1 hz with rfl | hz
     · exact c1
     · have := hb.lt z hz; omega
   · rw [if_neg c1]
     by_cases c2 : y.rank < x.rank
     · rw [if_pos c2, List.filter_cons_of_neg (by simp), i2 c2 ha hb.tail h1]
       refine itri_congr fun z hz => (mat_skip ?_).symm
       rcases List.mem_cons.1 hz with rfl | hz
       · omega
       · have := ha.lt z hz; omega
     · have c3 : x.rank = y.rank := by omega
       rw [if_neg c2, List.filter_cons_of_pos (by simpa using hx), i3 c3 ha.tail hb.tail ht]
       show _ = (⟨x.rank, x.ref, mat (y :: ys) x.rank⟩ : Tri) :: itri xs (y :: ys)
       rw [mat_here c3.symm, itri_congr fun z hz => (mat_skip (ys := ys) ?_).symm]
       have := ha.lt z hz; omega
theorem zrun_drop {op : List Gate → Int → Int → List Gate × Int} {f : Bool → Bool → Bool} (hop : OpOk op f) (h1 : ∀ c q, Good c → In c q → op c 1 q = (c, 1)) : ∀ (l : List Tri) (c : List Gate) (m : List Cell), Good c → c.length + l.length ≤ 20000 → (∀ t ∈ l, In c t.p ∧ In c t.q) →
 zrun op l (c, m) = zrun op (l.filter fun t => t.p != 1) (c, m)
 | [], _, _, _, _, _ => rfl
 | t :: l, c, m, hg, hl, ht => by
  simp only [List.length_cons] at hl
  have h0 := ht t (List.mem_cons_self ..)
  by_cases hp : t.p = 1
  · rw [List.filter_cons_of_neg (by simp [hp])]
    rw [← zrun_drop hop h1 l c m hg (by omega) fun z hz => ht z (List.mem_cons_of_mem _ hz)]
    show zrun op l (zstep op (c, m) t) = _
    rw [zstep, hp, h1 c t.q hg h0.2]
    rfl
  · rw [List.filter_cons_of_pos (by simpa using hp)]
    obtain ⟨g, _, _⟩ := hop.one hg (by omega) h0.1 h0.2
    have hlen := g.len
    show zrun op l (zstep op (c, m) t) = zrun op _ (zstep op (c, m) t)
    exact zrun_drop hop h1 l _ _ g.good (by show (op c t.p t.q).1.length + _ ≤ _; omega) fun z hz => by
     have := ht z (List.mem_cons_of_mem _ hz)
     exact ⟨this.1.up g, this.2.up g⟩
theorem mzip_in {c : List Gate} {N : Int} {a b : List Cell} (hg : Good c) (ha : MOk c N a) (hb : MOk c N b) : ∀ t ∈ mzip a b, In c t.p ∧ In c t.q := by
 obtain ⟨h1, _⟩ := mzip_spec a b ha.sorted hb.sorted
 intro t ht
 obtain ⟨e1, e2, _⟩ := h1 t ht
 rw [e1, e2]
 exact ⟨ha.mat_in' hg _, hb.mat_in' hg _⟩
theorem zrun_itri {op : List Gate → Int → Int → List Gate × Int} {f : Bool → Bool → Bool} (hop : OpOk op f) (h1 : ∀ c q, Good c → In c q → op c 1 q = (c, 1)) {N : Int} {c : List Gate} {a b : List Cell} (hg : Good c) (hl : c.length + (a.length + b.length) ≤ 20000) (ha : MOk c N a) (hb : MOk c N b) :
 zrun op (itri a b) (c, []) = zrun op (mzip a b) (c, []) := by
 have := mzip_len a b
 rw [zrun_drop hop h1 _ c [] hg (by omega) (mzip_in hg ha hb), mzip_filter a b ha.sorted hb.sorted fun x hx => (ha.refs x hx).2.2]
theorem and_one {c : List Gate} {q : Int} (hg : Good c) (hq : In c q) : cand c 1 q = (c, 1) := and_1 hq.1 hq.2 hg.ne
theorem but_one {c : List Gate} {q : Int} (hg : Good c) (hq : In c q) : cbut c 1 q = (c, 1) := by
 have := cnot_bounds hq.1 hq.2
 exact and_1 this.1 this.2 hg.ne
section
variable {N : Int} {c : List Gate} {a b : List Cell} (hg : Good c) (hl : c.length + (a.length + b.length) ≤ 20000) (ha : MOk c N a) (hb : MOk c N b)
include hg hl ha hb
omit hg hl in
theorem rUnion_eq : zrun cor (rtri a b) (c, []) = mUnion c a b := by rw [rtri_eq ha.sorted hb.sorted]; rfl
theorem rInter_eq : zrun cand (itri a b) (c, []) = mInter c a b := zrun_itri ok_and (fun c q h h' => and_one h h') hg hl ha hb
theorem rDiff_eq : zrun cbut (itri a b) (c, []) = mDiff c a b := zrun_itri ok_but (fun c q h h' => but_one h h') hg hl ha hb
end
end Go.Proofs.Ytadilppdlbhjnaa
namespace Go.Proofs.Ytadilppdlbhjnaa
set_option linter.unusedSimpArgs false
set_option linter.unusedVariables false
def gp (g : Cell → Cell → List Tri) (a b : List Cell) : List Tri := a.flatMap fun x => b.flatMap (g x)
def gl (g : Cell → Cell → List Tri) (a b : List Cell) (I K : Nat) : List Tri := gp g (a.take I) b ++ gp g ((a.drop I).take 1) (b.take K)
theorem gp_append (g : Cell → Cell → List Tri) (a a' b : List Cell) : gp g (a ++ a') b = gp g a b ++ gp g a' b := by simp [gp]
theorem gp_one (g : Cell → Cell → List Tri) (x : Cell) (b : List Cell) : gp g [x] b = b.flatMap (g x) := by simp [gp]
variable {g : Cell → Cell → List Tri} {a b : List Cell} {I K : Nat} {x y : Cell}
theorem gl_zero : gl g a b I 0 = gp g (a.take I) b := by simp [gl, gp]
theorem gl_start : gl g a b 0 0 = [] := by simp [gl, gp]
theorem one_of (hx : a[I]? = some x) : (a.drop I).take 1 = [x] := by
 obtain ⟨hk, he⟩ := List.getElem?_eq_some_iff.1 hx
 rw [List.drop_eq_getElem_cons hk, he]; rfl
theorem take_next (hx : a[I]? = some x) : a.take (I + 1) = a.take I ++ [x] := by
 obtain ⟨hk, he⟩ := List.getElem?_eq_some_iff.1 hx
 rw [List.take_succ_eq_append_getElem hk, he]
theorem gl_step (hx : a[I]? = some x) (hy : b[K]? = some y) : gl g a b I (K + 1) = gl g a b I K ++ g x y := by
 unfold gl
 rw [one_of hx, gp_one, gp_one, take_next hy, List.flatMap_append, List.append_assoc]
 simp
theorem gl_next (hx : a[I]? = some x) : gl g a b (I + 1) 0 = gl g a b I b.length := by
 rw [gl_zero, take_next hx, gp_append]
 unfold gl
 rw [one_of hx, List.take_length]
theorem gl_end : gl g a b a.length 0 = gp g a b := by rw [gl_zero, List.take_length]
theorem gl_prefix : gl g a b I K <+: gp g a b := by
 have h : gp g a b = gp g (a.take I) b ++ gp g (a.drop I) b := by rw [← gp_append, List.take_append_drop]
 rw [h]
 unfold gl
 rw [List.prefix_append_right_inj]
 cases hd : a.drop I with
 | nil => simp [gp]
 | cons z t =>
  have e : gp g (z :: t) b = gp g [z] b ++ gp g t b := gp_append g [z] t b
  rw [e]
  refine List.IsPrefix.trans ?_ (List.prefix_append _ _)
  show gp g [z] (b.take K) <+: gp g [z] b
  rw [gp_one, gp_one]
  have : b.flatMap (g z) = (b.take K).flatMap (g z) ++ (b.drop K).flatMap (g z) := by rw [← List.flatMap_append, List.take_append_drop]
  rw [this]; exact List.prefix_append _ _
def gj (n p : Int) (x y : Cell) : List Tri := if x.rank % n == y.rank / p then [⟨x.rank / n * p + y.rank % p, x.ref, y.ref⟩] else []
theorem jpairs_gp (n p : Int) (a b : List Cell) : jpairs n p a b = gp (gj n p) a b := by
 unfold jpairs gp
 refine congrArg (fun f => a.flatMap f) (funext fun x => ?_)
 induction b with
 | nil => rfl
 | cons y b ih =>
  rw [List.flatMap_cons, ← ih]
  unfold gj
  by_cases h : (x.rank % n == y.rank / p) = true
  · simp only [List.filter_cons, h, if_true]; rfl
  · simp only [List.filter_cons, h, if_false]; rfl
def jst (c : List Gate) (n p : Int) (a b : List Cell) (I K : Nat) : List Gate × (Int → Int) := jrun (gl (gj n p) a b I K) (c, fun _ => 1)
theorem jrun_append (l m : List Tri) (x : List Gate × (Int → Int)) : jrun (l ++ m) x = jrun m (jrun l x) := by simp [jrun, List.foldl_append]
section
variable {c : List Gate} {A B : Int} {N : Nat} {n p : Int} (hg : Good c) (hl : c.length + 2 * (a.length * b.length) ≤ 20000) (ha : MOk c A a) (hb : MOk c B b)
include hg hl ha hb
theorem jst_ok : Grow c (jst c n p a b I K).1 (2 * (a.length * b.length)) ∧ ∀ r, In (jst c n p a b I K).1 ((jst c n p a b I K).2 r) := by
 have hp : gl (gj n p) a b I K <+: jpairs n p a b := by rw [jpairs_gp]; exact gl_prefix
 have h1 := hp.length_le
 have h2 := jpairs_len n p a b
 have hmem : ∀ t ∈ gl (gj n p) a b I K, In c t.p ∧ In c t.q := fun t ht => by
  obtain ⟨u, hu, v, hv, _, rfl⟩ := mem_jpairs.1 (hp.subset ht)
  exact ⟨ha.ref_in hu, hb.ref_in hv⟩
 obtain ⟨g1, g2, _⟩ := jrun_ok (gl (gj n p) a b I K) c (fun _ => 1) hg (by omega) (fun r => in_1 hg.ne) hmem
 exact ⟨g1.more (by omega), g2⟩
end
theorem jst_start {c : List Gate} {n p : Int} : jst c n p a b 0 0 = (c, fun _ => 1) := by unfold jst; rw [gl_start]; rfl
theorem jst_next {c : List Gate} {n p : Int} (hx : a[I]? = some x) : jst c n p a b (I + 1) 0 = jst c n p a b I b.length := by unfold jst; rw [gl_next hx]
theorem jst_end {c : List Gate} {n p : Int} {N : Nat} : ((jst c n p a b a.length 0).1, gather (ranksTo N) (jst c n p a b a.length 0).2) = mJoin c N n p a b := by
 unfold jst mJoin; rw [gl_end, jpairs_gp]
theorem jst_skip {c : List Gate} {n p : Int} (hx : a[I]? = some x) (hy : b[K]? = some y) (h : x.rank % n ≠ y.rank / p) : jst c n p a b I (K + 1) = jst c n p a b I K := by
 unfold jst; rw [gl_step hx hy, gj, if_neg (by simpa using h), List.append_nil]
theorem jst_step {c C D E : List Gate} {n p q z : Int} {S : Int → Int} (hx : a[I]? = some x) (hy : b[K]? = some y) (h : x.rank % n = y.rank / p) (h0 : jst c n p a b I K = (C, S)) (h1 : cand C x.ref y.ref = (D, q)) (h2 : cor D (S (x.rank / n * p + y.rank % p)) q = (E, z)) :
 jst c n p a b I (K + 1) = (E, fun r => if r = x.rank / n * p + y.rank % p then z else S r) := by
 unfold jst at h0 ⊢
 rw [gl_step hx hy, gj, if_pos (by simpa using h), jrun_append, h0]
 show ((cor (cand C x.ref y.ref).1 (S _) (cand C x.ref y.ref).2).1, fun r => if r = _ then (cor (cand C x.ref y.ref).1 (S _) (cand C x.ref y.ref).2).2 else S r) = _
 rw [h1]
 dsimp only
 rw [h2]
end Go.Proofs.Ytadilppdlbhjnaa
